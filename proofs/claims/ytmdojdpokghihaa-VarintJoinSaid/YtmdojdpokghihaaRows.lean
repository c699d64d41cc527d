/-
  No cell of these rows narrows 'for every input' (looked for: loops, veiled, ifaces, maps, wideKeys, modest, calm, conditions, laid).
  DERIVED. THE GIVEN ROWS OF THIS SEAT. 5 by the template 'for every input the law returns true; each argument reads behind the call as it read before'; 0 by the template 'total and deterministic' (their statements: YtmdojdpokghihaaTotals.lean).
  GIVEN WITH THE SEED: the statements are not yours to turn. If you find one false, say at which input.
  Laid BY PROGRAM, IN A SANDBOX (cutbox-rows.mjs): the forced cells as the released guide's own fill.sh prints them over the translation a67cf96e5288d2dc… (all of the seat's roots in one cut). By AI agents, Wed Nov 11 2026. No macro, syntax, notation, axiom, sorry.
-/
import Derived.Test.YtmdojdpokghihaaChecked
import GoSem.Claim
import GoSem.ClaimJoined
import GoSem.ClaimMapViews
import Derived.JoinedTies
import Derived.KernelRfl
namespace Go.Proofs.Ytmdojdpokghihaa
/- THE CELL 'sum', in the pinned program and in every row, IS THE sha256 OF THE DUMP (.gsa) THAT YtmdojdpokghihaaProg.lean LOADS. Nothing in Lean hashes anything: it is a label: what it is worth is what the hold of that sum in a sandbox is worth. -/
noncomputable def Try.pinned : Pinned := { name := "ytmdojdpokghihaa", sum := "a67cf96e5288d2dc64b24680f7466636316e47ea7ed876a595dec0132308b29f", checked := Try.checked }
namespace Rows
def none {H : Type} : Left H := { results := [], args := [] }

/-- 'eskerlaw01.VarintTurned': WHATEVER THE INPUT: true; the input reads as it did. -/
def varintTurnedSpec : ChangeSpec := { name := "varintTurned", fn := fun _ => fun
  | [d1, d2] => { results := [.lit (.bool true)], args := [d1, d2] }
  | _ => none }
def varintTurnedRow : OpenClaim := { program := "ytmdojdpokghihaa", sum := "a67cf96e5288d2dc64b24680f7466636316e47ea7ed876a595dec0132308b29f", func := "esker/eskerlaw01.VarintTurned", spec := "varintTurned", apart := false }
def VarintTurnedSaid : Prop := varintTurnedRow.holds Try.pinned (OpenSpec.ofChange varintTurnedSpec)

/-- ITS FALSE NEIGHBOUR: 'it returns false'. Refute it at one input. -/
def varintTurnedWrong : ChangeSpec := { name := "varintTurned", fn := fun _ => fun
  | [d1, d2] => { results := [.lit (.bool false)], args := [d1, d2] }
  | _ => none }
def VarintTurnedWrongFalsely : Prop := varintTurnedRow.holds Try.pinned (OpenSpec.ofChange varintTurnedWrong)

/-- 'eskerlaw01.VarintTurns': WHATEVER THE INPUT: true; the input reads as it did. -/
def varintTurnsSpec : ChangeSpec := { name := "varintTurns", fn := fun _ => fun
  | [d1, d2, d3] => { results := [.lit (.bool true)], args := [d1, d2, d3] }
  | _ => none }
def varintTurnsRow : OpenClaim := { program := "ytmdojdpokghihaa", sum := "a67cf96e5288d2dc64b24680f7466636316e47ea7ed876a595dec0132308b29f", func := "esker/eskerlaw01.VarintTurns", spec := "varintTurns", apart := false }
def VarintTurnsSaid : Prop := varintTurnsRow.holds Try.pinned (OpenSpec.ofChange varintTurnsSpec)

/-- ITS FALSE NEIGHBOUR: 'it returns false'. Refute it at one input. -/
def varintTurnsWrong : ChangeSpec := { name := "varintTurns", fn := fun _ => fun
  | [d1, d2, d3] => { results := [.lit (.bool false)], args := [d1, d2, d3] }
  | _ => none }
def VarintTurnsWrongFalsely : Prop := varintTurnsRow.holds Try.pinned (OpenSpec.ofChange varintTurnsWrong)

/-- 'eskerlaw01.VarintSizes': WHATEVER THE INPUT: true; the input reads as it did. -/
def varintSizesSpec : ChangeSpec := { name := "varintSizes", fn := fun _ => fun
  | [d1, d2, d3] => { results := [.lit (.bool true)], args := [d1, d2, d3] }
  | _ => none }
def varintSizesRow : OpenClaim := { program := "ytmdojdpokghihaa", sum := "a67cf96e5288d2dc64b24680f7466636316e47ea7ed876a595dec0132308b29f", func := "esker/eskerlaw01.VarintSizes", spec := "varintSizes", apart := false }
def VarintSizesSaid : Prop := varintSizesRow.holds Try.pinned (OpenSpec.ofChange varintSizesSpec)

/-- ITS FALSE NEIGHBOUR: 'it returns false'. Refute it at one input. -/
def varintSizesWrong : ChangeSpec := { name := "varintSizes", fn := fun _ => fun
  | [d1, d2, d3] => { results := [.lit (.bool false)], args := [d1, d2, d3] }
  | _ => none }
def VarintSizesWrongFalsely : Prop := varintSizesRow.holds Try.pinned (OpenSpec.ofChange varintSizesWrong)

/-- 'eskerlaw01.VarintBack': WHATEVER THE INPUT: true; the input reads as it did. -/
def varintBackSpec : ChangeSpec := { name := "varintBack", fn := fun _ => fun
  | [d1, d2, d3] => { results := [.lit (.bool true)], args := [d1, d2, d3] }
  | _ => none }
def varintBackRow : OpenClaim := { program := "ytmdojdpokghihaa", sum := "a67cf96e5288d2dc64b24680f7466636316e47ea7ed876a595dec0132308b29f", func := "esker/eskerlaw01.VarintBack", spec := "varintBack", unfollowed := true, recurses := true, apart := false }
def VarintBackSaid : Prop := varintBackRow.holds Try.pinned (OpenSpec.ofChange varintBackSpec)

/-- ITS FALSE NEIGHBOUR: 'it returns false'. Refute it at one input. -/
def varintBackWrong : ChangeSpec := { name := "varintBack", fn := fun _ => fun
  | [d1, d2, d3] => { results := [.lit (.bool false)], args := [d1, d2, d3] }
  | _ => none }
def VarintBackWrongFalsely : Prop := varintBackRow.holds Try.pinned (OpenSpec.ofChange varintBackWrong)

/-- 'eskerlaw01.VarintJoin': WHATEVER THE INPUT: true; the input reads as it did. -/
def varintJoinSpec : ChangeSpec := { name := "varintJoin", fn := fun _ => fun
  | [d1, d2, d3] => { results := [.lit (.bool true)], args := [d1, d2, d3] }
  | _ => none }
def varintJoinRow : OpenClaim := { program := "ytmdojdpokghihaa", sum := "a67cf96e5288d2dc64b24680f7466636316e47ea7ed876a595dec0132308b29f", func := "esker/eskerlaw01.VarintJoin", spec := "varintJoin", unfollowed := true, recurses := true, apart := false }
def VarintJoinSaid : Prop := varintJoinRow.holds Try.pinned (OpenSpec.ofChange varintJoinSpec)

/-- ITS FALSE NEIGHBOUR: 'it returns false'. Refute it at one input. -/
def varintJoinWrong : ChangeSpec := { name := "varintJoin", fn := fun _ => fun
  | [d1, d2, d3] => { results := [.lit (.bool false)], args := [d1, d2, d3] }
  | _ => none }
def VarintJoinWrongFalsely : Prop := varintJoinRow.holds Try.pinned (OpenSpec.ofChange varintJoinWrong)

/- THE SECOND FORM. 'bulk': how many values and letters a reading holds, each counted each time it is reached (what is shared counts as often as it is met; a slice's spare places count too). A statement '..UptoSaid' is the law's where the arguments, and the package variables that the reading takes, are together of bulk at most 1048576: NARROWER than '..Said'. Prove '..Said' where nothing that the law and all that it calls make is longer than what came in: it says more and counts as full. Else prove '..UptoSaid'. A law counts once. -/
mutual
def uptoBulk {H : Type} : DataW H → Nat
  | .lit (.string bytes) => bytes.length + 1
  | .lit _ => 1
  | .nil => 1
  | .ptr d => uptoBulk d + 1
  | .slice elems spare => uptoBulkAll elems + uptoBulkAll spare + 1
  | .agg parts => uptoBulkAll parts + 1
  | .iface _ d => uptoBulk d + 1
  | .map entries => uptoBulkEntries entries + 1
  | .held _ => 1
def uptoBulkAll {H : Type} : List (DataW H) → Nat
  | [] => 0
  | d :: r => uptoBulk d + uptoBulkAll r
def uptoBulkEntries {H : Type} : List (Lit × DataW H) → Nat
  | [] => 0
  | x :: r => uptoBulkEntry x + uptoBulkEntries r
def uptoBulkEntry {H : Type} : Lit × DataW H → Nat
  | (.string bytes, d) => bytes.length + uptoBulk d + 1
  | (_, d) => uptoBulk d + 1
 end
def uptoSmall : (H : Type) → List (DataW H) → Bool := fun _ ds => decide (uptoBulkAll ds ≤ 1048576)
def OpenSpec.upto (s : _root_.Go.ChangeSpec) : _root_.Go.OpenSpec := { _root_.Go.OpenSpec.ofChange s with cond := some uptoSmall }

/-- 'eskerlaw01.VarintTurned', WHERE WHAT IT READS IS OF BULK AT MOST 1048576: true; the input reads as it did. -/
def varintTurnedUptoRow : OpenClaim := { program := "ytmdojdpokghihaa", sum := "a67cf96e5288d2dc64b24680f7466636316e47ea7ed876a595dec0132308b29f", func := "esker/eskerlaw01.VarintTurned", spec := "varintTurned", apart := false, narrowed := true }
def VarintTurnedUptoSaid : Prop := varintTurnedUptoRow.holds Try.pinned (OpenSpec.upto varintTurnedSpec)

/-- 'eskerlaw01.VarintTurns', WHERE WHAT IT READS IS OF BULK AT MOST 1048576: true; the input reads as it did. -/
def varintTurnsUptoRow : OpenClaim := { program := "ytmdojdpokghihaa", sum := "a67cf96e5288d2dc64b24680f7466636316e47ea7ed876a595dec0132308b29f", func := "esker/eskerlaw01.VarintTurns", spec := "varintTurns", apart := false, narrowed := true }
def VarintTurnsUptoSaid : Prop := varintTurnsUptoRow.holds Try.pinned (OpenSpec.upto varintTurnsSpec)

/-- 'eskerlaw01.VarintSizes', WHERE WHAT IT READS IS OF BULK AT MOST 1048576: true; the input reads as it did. -/
def varintSizesUptoRow : OpenClaim := { program := "ytmdojdpokghihaa", sum := "a67cf96e5288d2dc64b24680f7466636316e47ea7ed876a595dec0132308b29f", func := "esker/eskerlaw01.VarintSizes", spec := "varintSizes", apart := false, narrowed := true }
def VarintSizesUptoSaid : Prop := varintSizesUptoRow.holds Try.pinned (OpenSpec.upto varintSizesSpec)

/-- 'eskerlaw01.VarintBack', WHERE WHAT IT READS IS OF BULK AT MOST 1048576: true; the input reads as it did. -/
def varintBackUptoRow : OpenClaim := { program := "ytmdojdpokghihaa", sum := "a67cf96e5288d2dc64b24680f7466636316e47ea7ed876a595dec0132308b29f", func := "esker/eskerlaw01.VarintBack", spec := "varintBack", unfollowed := true, recurses := true, apart := false, narrowed := true }
def VarintBackUptoSaid : Prop := varintBackUptoRow.holds Try.pinned (OpenSpec.upto varintBackSpec)

/-- 'eskerlaw01.VarintJoin', WHERE WHAT IT READS IS OF BULK AT MOST 1048576: true; the input reads as it did. -/
def varintJoinUptoRow : OpenClaim := { program := "ytmdojdpokghihaa", sum := "a67cf96e5288d2dc64b24680f7466636316e47ea7ed876a595dec0132308b29f", func := "esker/eskerlaw01.VarintJoin", spec := "varintJoin", unfollowed := true, recurses := true, apart := false, narrowed := true }
def VarintJoinUptoSaid : Prop := varintJoinUptoRow.holds Try.pinned (OpenSpec.upto varintJoinSpec)

end Rows
end Go.Proofs.Ytmdojdpokghihaa

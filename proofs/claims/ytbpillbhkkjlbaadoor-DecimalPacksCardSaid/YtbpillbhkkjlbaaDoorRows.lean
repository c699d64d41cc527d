/-
  NARROWER THAN 'FOR EVERY INPUT', by the rows' own cells (each row's printed sentence says how): DecimalPacks: laid · DecimalUnpacks: laid · DecimalBack: laid · DecimalAll: laid · DecimalPart: laid · DecimalOrders: laid.
  DERIVED. THE GIVEN ROWS OF THIS SEAT. 6 by the template 'for every input the law returns true; each argument reads behind the call as it read before'; 0 by the template 'total and deterministic' (their statements: YtbpillbhkkjlbaaDoorTotals.lean).
  GIVEN WITH THE SEED: the statements are not yours to turn. If you find one false, say at which input.
  Laid BY PROGRAM, IN A SANDBOX (cutbox-rows.mjs): the forced cells as the released guide's own fill.sh prints them over the translation dfc1ef81de2bf048… (all of the seat's roots in one cut). By AI agents, Wed Nov 11 2026. No macro, syntax, notation, axiom, sorry.
-/
import Derived.Test.YtbpillbhkkjlbaaDoorChecked
import GoSem.Claim
import GoSem.ClaimJoined
import GoSem.ClaimMapViews
import Derived.JoinedTies
import Derived.KernelRfl
namespace Go.Proofs.YtbpillbhkkjlbaaDoor
/- THE CELL 'sum', in the pinned program and in every row, IS THE sha256 OF THE DUMP (.gsa) THAT YtbpillbhkkjlbaaDoorProg.lean LOADS. Nothing in Lean hashes anything: it is a label: what it is worth is what the hold of that sum in a sandbox is worth. -/
noncomputable def Tryd.pinned : Pinned := { name := "ytbpillbhkkjlbaadoor", sum := "dfc1ef81de2bf04802afded34eceb82fd5f309ceaa553aabb7ad88cd0d784289", checked := Tryd.checked }
namespace Rows
def none {H : Type} : Left H := { results := [], args := [] }

/- WHAT THE LISTED PACKAGE-LEVEL VARIABLES READ AS WHEN THE CALL BEGINS. Each datum BY PROGRAM (the guide's laid-datum.mjs) off the statement by which the dump's own 'gosem.cut.vars' lays the variable. In a bare row this is a premise. The card (YtbpillbhkkjlbaaDoorCards.lean) ties it to the program's text. -/
def laid_esker_decimal_tens {H : Type} : DataW H := .agg [.lit (.int .i64 1), .lit (.int .i64 10), .lit (.int .i64 100), .lit (.int .i64 1000), .lit (.int .i64 10000), .lit (.int .i64 100000), .lit (.int .i64 1000000), .lit (.int .i64 10000000), .lit (.int .i64 100000000), .lit (.int .i64 1000000000), .lit (.int .i64 10000000000), .lit (.int .i64 100000000000), .lit (.int .i64 1000000000000), .lit (.int .i64 10000000000000), .lit (.int .i64 100000000000000), .lit (.int .i64 1000000000000000), .lit (.int .i64 10000000000000000), .lit (.int .i64 100000000000000000), .lit (.int .i64 1000000000000000000)]

/-- 'eskerlaw03.DecimalPacks': WHATEVER THE INPUT: true; the input reads as it did. -/
def decimalPacksSpec : ChangeSpec := { name := "decimalPacks", fn := fun _ => fun
  | [d] => { results := [.lit (.bool true)], args := [d] }
  | _ => none }
def decimalPacksRow : OpenClaim := { program := "ytbpillbhkkjlbaadoor", sum := "dfc1ef81de2bf04802afded34eceb82fd5f309ceaa553aabb7ad88cd0d784289", func := "esker/eskerlaw03.DecimalPacks", spec := "decimalPacks", named := ["esker/decimal.tens"], apart := false, laid := [("esker/decimal.tens", laid_esker_decimal_tens)] }
def DecimalPacksSaid : Prop := decimalPacksRow.holds Tryd.pinned (OpenSpec.ofChange decimalPacksSpec)

/-- ITS FALSE NEIGHBOUR: 'it returns false'. Refute it at one input. -/
def decimalPacksWrong : ChangeSpec := { name := "decimalPacks", fn := fun _ => fun
  | [d] => { results := [.lit (.bool false)], args := [d] }
  | _ => none }
def DecimalPacksWrongFalsely : Prop := decimalPacksRow.holds Tryd.pinned (OpenSpec.ofChange decimalPacksWrong)

/-- 'eskerlaw03.DecimalUnpacks': WHATEVER THE INPUT: true; the input reads as it did. -/
def decimalUnpacksSpec : ChangeSpec := { name := "decimalUnpacks", fn := fun _ => fun
  | [d1, d2] => { results := [.lit (.bool true)], args := [d1, d2] }
  | _ => none }
def decimalUnpacksRow : OpenClaim := { program := "ytbpillbhkkjlbaadoor", sum := "dfc1ef81de2bf04802afded34eceb82fd5f309ceaa553aabb7ad88cd0d784289", func := "esker/eskerlaw03.DecimalUnpacks", spec := "decimalUnpacks", named := ["esker/decimal.tens"], apart := false, laid := [("esker/decimal.tens", laid_esker_decimal_tens)] }
def DecimalUnpacksSaid : Prop := decimalUnpacksRow.holds Tryd.pinned (OpenSpec.ofChange decimalUnpacksSpec)

/-- ITS FALSE NEIGHBOUR: 'it returns false'. Refute it at one input. -/
def decimalUnpacksWrong : ChangeSpec := { name := "decimalUnpacks", fn := fun _ => fun
  | [d1, d2] => { results := [.lit (.bool false)], args := [d1, d2] }
  | _ => none }
def DecimalUnpacksWrongFalsely : Prop := decimalUnpacksRow.holds Tryd.pinned (OpenSpec.ofChange decimalUnpacksWrong)

/-- 'eskerlaw03.DecimalBack': WHATEVER THE INPUT: true; the input reads as it did. -/
def decimalBackSpec : ChangeSpec := { name := "decimalBack", fn := fun _ => fun
  | [d] => { results := [.lit (.bool true)], args := [d] }
  | _ => none }
def decimalBackRow : OpenClaim := { program := "ytbpillbhkkjlbaadoor", sum := "dfc1ef81de2bf04802afded34eceb82fd5f309ceaa553aabb7ad88cd0d784289", func := "esker/eskerlaw03.DecimalBack", spec := "decimalBack", named := ["esker/decimal.tens"], apart := false, laid := [("esker/decimal.tens", laid_esker_decimal_tens)] }
def DecimalBackSaid : Prop := decimalBackRow.holds Tryd.pinned (OpenSpec.ofChange decimalBackSpec)

/-- ITS FALSE NEIGHBOUR: 'it returns false'. Refute it at one input. -/
def decimalBackWrong : ChangeSpec := { name := "decimalBack", fn := fun _ => fun
  | [d] => { results := [.lit (.bool false)], args := [d] }
  | _ => none }
def DecimalBackWrongFalsely : Prop := decimalBackRow.holds Tryd.pinned (OpenSpec.ofChange decimalBackWrong)

/-- 'eskerlaw03.DecimalAll': WHATEVER THE INPUT: true; the input reads as it did. -/
def decimalAllSpec : ChangeSpec := { name := "decimalAll", fn := fun _ => fun
  | [d] => { results := [.lit (.bool true)], args := [d] }
  | _ => none }
def decimalAllRow : OpenClaim := { program := "ytbpillbhkkjlbaadoor", sum := "dfc1ef81de2bf04802afded34eceb82fd5f309ceaa553aabb7ad88cd0d784289", func := "esker/eskerlaw03.DecimalAll", spec := "decimalAll", named := ["esker/decimal.tens"], apart := false, laid := [("esker/decimal.tens", laid_esker_decimal_tens)] }
def DecimalAllSaid : Prop := decimalAllRow.holds Tryd.pinned (OpenSpec.ofChange decimalAllSpec)

/-- ITS FALSE NEIGHBOUR: 'it returns false'. Refute it at one input. -/
def decimalAllWrong : ChangeSpec := { name := "decimalAll", fn := fun _ => fun
  | [d] => { results := [.lit (.bool false)], args := [d] }
  | _ => none }
def DecimalAllWrongFalsely : Prop := decimalAllRow.holds Tryd.pinned (OpenSpec.ofChange decimalAllWrong)

/-- 'eskerlaw03.DecimalPart': WHATEVER THE INPUT: true; the input reads as it did. -/
def decimalPartSpec : ChangeSpec := { name := "decimalPart", fn := fun _ => fun
  | [d1, d2, d3] => { results := [.lit (.bool true)], args := [d1, d2, d3] }
  | _ => none }
def decimalPartRow : OpenClaim := { program := "ytbpillbhkkjlbaadoor", sum := "dfc1ef81de2bf04802afded34eceb82fd5f309ceaa553aabb7ad88cd0d784289", func := "esker/eskerlaw03.DecimalPart", spec := "decimalPart", named := ["esker/decimal.tens"], apart := false, laid := [("esker/decimal.tens", laid_esker_decimal_tens)] }
def DecimalPartSaid : Prop := decimalPartRow.holds Tryd.pinned (OpenSpec.ofChange decimalPartSpec)

/-- ITS FALSE NEIGHBOUR: 'it returns false'. Refute it at one input. -/
def decimalPartWrong : ChangeSpec := { name := "decimalPart", fn := fun _ => fun
  | [d1, d2, d3] => { results := [.lit (.bool false)], args := [d1, d2, d3] }
  | _ => none }
def DecimalPartWrongFalsely : Prop := decimalPartRow.holds Tryd.pinned (OpenSpec.ofChange decimalPartWrong)

/-- 'eskerlaw03.DecimalOrders': WHATEVER THE INPUT: true; the input reads as it did. -/
def decimalOrdersSpec : ChangeSpec := { name := "decimalOrders", fn := fun _ => fun
  | [d1, d2, d3] => { results := [.lit (.bool true)], args := [d1, d2, d3] }
  | _ => none }
def decimalOrdersRow : OpenClaim := { program := "ytbpillbhkkjlbaadoor", sum := "dfc1ef81de2bf04802afded34eceb82fd5f309ceaa553aabb7ad88cd0d784289", func := "esker/eskerlaw03.DecimalOrders", spec := "decimalOrders", named := ["esker/decimal.tens"], apart := false, laid := [("esker/decimal.tens", laid_esker_decimal_tens)] }
def DecimalOrdersSaid : Prop := decimalOrdersRow.holds Tryd.pinned (OpenSpec.ofChange decimalOrdersSpec)

/-- ITS FALSE NEIGHBOUR: 'it returns false'. Refute it at one input. -/
def decimalOrdersWrong : ChangeSpec := { name := "decimalOrders", fn := fun _ => fun
  | [d1, d2, d3] => { results := [.lit (.bool false)], args := [d1, d2, d3] }
  | _ => none }
def DecimalOrdersWrongFalsely : Prop := decimalOrdersRow.holds Tryd.pinned (OpenSpec.ofChange decimalOrdersWrong)

/- THE SECOND FORM. 'bulk': how many values and letters a reading holds, each counted each time it is reached (what is shared counts as often as it is met; a slice's spare places count too). A statement '..UptoSaid' is the law's where the arguments, and the package variables that the reading takes, are together of bulk at most 1048576: NARROWER than '..Said'. Prove '..Said' where nothing that the law and all that it calls make is longer than what came in: it says more and counts as full. Else prove '..UptoSaid'. A law counts once. -/
mutual
def uptoBulk {H : Type} : DataW H → Nat
  | .lit (.string bytes) => bytes.length + 1
  | .lit _ => 1
  | .nil => 1
  | .ptr d => uptoBulk d + 1
  | .slice elems spare => uptoBulkAll elems + uptoBulkAll spare + 1
  | .agg parts => uptoBulkAll parts + 1
  | .iface _ d => uptoBulk d + 1
  | .map entries => uptoBulkEntries entries + 1
  | .held _ => 1
def uptoBulkAll {H : Type} : List (DataW H) → Nat
  | [] => 0
  | d :: r => uptoBulk d + uptoBulkAll r
def uptoBulkEntries {H : Type} : List (Lit × DataW H) → Nat
  | [] => 0
  | x :: r => uptoBulkEntry x + uptoBulkEntries r
def uptoBulkEntry {H : Type} : Lit × DataW H → Nat
  | (.string bytes, d) => bytes.length + uptoBulk d + 1
  | (_, d) => uptoBulk d + 1
 end
def uptoSmall : (H : Type) → List (DataW H) → Bool := fun _ ds => decide (uptoBulkAll ds ≤ 1048576)
def OpenSpec.upto (s : _root_.Go.ChangeSpec) : _root_.Go.OpenSpec := { _root_.Go.OpenSpec.ofChange s with cond := some uptoSmall }

/-- 'eskerlaw03.DecimalPacks', WHERE WHAT IT READS IS OF BULK AT MOST 1048576: true; the input reads as it did. -/
def decimalPacksUptoRow : OpenClaim := { program := "ytbpillbhkkjlbaadoor", sum := "dfc1ef81de2bf04802afded34eceb82fd5f309ceaa553aabb7ad88cd0d784289", func := "esker/eskerlaw03.DecimalPacks", spec := "decimalPacks", named := ["esker/decimal.tens"], apart := false, laid := [("esker/decimal.tens", laid_esker_decimal_tens)], narrowed := true }
def DecimalPacksUptoSaid : Prop := decimalPacksUptoRow.holds Tryd.pinned (OpenSpec.upto decimalPacksSpec)

/-- 'eskerlaw03.DecimalUnpacks', WHERE WHAT IT READS IS OF BULK AT MOST 1048576: true; the input reads as it did. -/
def decimalUnpacksUptoRow : OpenClaim := { program := "ytbpillbhkkjlbaadoor", sum := "dfc1ef81de2bf04802afded34eceb82fd5f309ceaa553aabb7ad88cd0d784289", func := "esker/eskerlaw03.DecimalUnpacks", spec := "decimalUnpacks", named := ["esker/decimal.tens"], apart := false, laid := [("esker/decimal.tens", laid_esker_decimal_tens)], narrowed := true }
def DecimalUnpacksUptoSaid : Prop := decimalUnpacksUptoRow.holds Tryd.pinned (OpenSpec.upto decimalUnpacksSpec)

/-- 'eskerlaw03.DecimalBack', WHERE WHAT IT READS IS OF BULK AT MOST 1048576: true; the input reads as it did. -/
def decimalBackUptoRow : OpenClaim := { program := "ytbpillbhkkjlbaadoor", sum := "dfc1ef81de2bf04802afded34eceb82fd5f309ceaa553aabb7ad88cd0d784289", func := "esker/eskerlaw03.DecimalBack", spec := "decimalBack", named := ["esker/decimal.tens"], apart := false, laid := [("esker/decimal.tens", laid_esker_decimal_tens)], narrowed := true }
def DecimalBackUptoSaid : Prop := decimalBackUptoRow.holds Tryd.pinned (OpenSpec.upto decimalBackSpec)

/-- 'eskerlaw03.DecimalAll', WHERE WHAT IT READS IS OF BULK AT MOST 1048576: true; the input reads as it did. -/
def decimalAllUptoRow : OpenClaim := { program := "ytbpillbhkkjlbaadoor", sum := "dfc1ef81de2bf04802afded34eceb82fd5f309ceaa553aabb7ad88cd0d784289", func := "esker/eskerlaw03.DecimalAll", spec := "decimalAll", named := ["esker/decimal.tens"], apart := false, laid := [("esker/decimal.tens", laid_esker_decimal_tens)], narrowed := true }
def DecimalAllUptoSaid : Prop := decimalAllUptoRow.holds Tryd.pinned (OpenSpec.upto decimalAllSpec)

/-- 'eskerlaw03.DecimalPart', WHERE WHAT IT READS IS OF BULK AT MOST 1048576: true; the input reads as it did. -/
def decimalPartUptoRow : OpenClaim := { program := "ytbpillbhkkjlbaadoor", sum := "dfc1ef81de2bf04802afded34eceb82fd5f309ceaa553aabb7ad88cd0d784289", func := "esker/eskerlaw03.DecimalPart", spec := "decimalPart", named := ["esker/decimal.tens"], apart := false, laid := [("esker/decimal.tens", laid_esker_decimal_tens)], narrowed := true }
def DecimalPartUptoSaid : Prop := decimalPartUptoRow.holds Tryd.pinned (OpenSpec.upto decimalPartSpec)

/-- 'eskerlaw03.DecimalOrders', WHERE WHAT IT READS IS OF BULK AT MOST 1048576: true; the input reads as it did. -/
def decimalOrdersUptoRow : OpenClaim := { program := "ytbpillbhkkjlbaadoor", sum := "dfc1ef81de2bf04802afded34eceb82fd5f309ceaa553aabb7ad88cd0d784289", func := "esker/eskerlaw03.DecimalOrders", spec := "decimalOrders", named := ["esker/decimal.tens"], apart := false, laid := [("esker/decimal.tens", laid_esker_decimal_tens)], narrowed := true }
def DecimalOrdersUptoSaid : Prop := decimalOrdersUptoRow.holds Tryd.pinned (OpenSpec.upto decimalOrdersSpec)

end Rows
end Go.Proofs.YtbpillbhkkjlbaaDoor

/-
  NARROWER THAN 'FOR EVERY INPUT', by the rows' own cells (each row's printed sentence says how): HopMatchesReference: laid · HopEach: laid · HopInverse: laid · HopAll: laid · HopWait: laid · TopOffsets: laid · HopShift: laid.
  DERIVED. THE GIVEN ROWS OF THIS SEAT. 7 by the template 'for every input the law returns true; each argument reads behind the call as it read before'; 0 by the template 'total and deterministic' (their statements: YtbgnkopnbgaabaaDoorTotals.lean).
  GIVEN WITH THE SEED: the statements are not yours to turn. If you find one false, say at which input.
  Laid BY PROGRAM, IN A SANDBOX (cutbox-rows.mjs): the forced cells as the released guide's own fill.sh prints them over the translation 13f978dd14fb9756… (all of the seat's roots in one cut). By AI agents, Wed Nov 11 2026. No macro, syntax, notation, axiom, sorry.
-/
import Derived.Test.YtbgnkopnbgaabaaDoorChecked
import GoSem.Claim
import GoSem.ClaimJoined
import GoSem.ClaimMapViews
import Derived.JoinedTies
import Derived.KernelRfl
namespace Go.Proofs.YtbgnkopnbgaabaaDoor
/- THE CELL 'sum', in the pinned program and in every row, IS THE sha256 OF THE DUMP (.gsa) THAT YtbgnkopnbgaabaaDoorProg.lean LOADS. Nothing in Lean hashes anything: it is a label: what it is worth is what the hold of that sum in a sandbox is worth. -/
noncomputable def Tryd.pinned : Pinned := { name := "ytbgnkopnbgaabaadoor", sum := "13f978dd14fb9756a164cf50ee92f96b3861dac52c9d6ef1a0b78fa50008657b", checked := Tryd.checked }
namespace Rows
def none {H : Type} : Left H := { results := [], args := [] }

/- WHAT THE LISTED PACKAGE-LEVEL VARIABLES READ AS WHEN THE CALL BEGINS. Each datum BY PROGRAM (the guide's laid-datum.mjs) off the statement by which the dump's own 'gosem.cut.vars' lays the variable. In a bare row this is a premise. The card (YtbgnkopnbgaabaaDoorCards.lean) ties it to the program's text. -/
def laid_slotmesh_hop_table {H : Type} : DataW H := .agg [.lit (.int .i64 0), .lit (.int .i64 5), .lit (.int .i64 10), .lit (.int .i64 15), .lit (.int .i64 4), .lit (.int .i64 9), .lit (.int .i64 14), .lit (.int .i64 3), .lit (.int .i64 8), .lit (.int .i64 13), .lit (.int .i64 2), .lit (.int .i64 7), .lit (.int .i64 12), .lit (.int .i64 1), .lit (.int .i64 6), .lit (.int .i64 11)]
def laid_slotmesh_hop_places {H : Type} : DataW H := .agg [.lit (.int .i64 0), .lit (.int .i64 13), .lit (.int .i64 10), .lit (.int .i64 7), .lit (.int .i64 4), .lit (.int .i64 1), .lit (.int .i64 14), .lit (.int .i64 11), .lit (.int .i64 8), .lit (.int .i64 5), .lit (.int .i64 2), .lit (.int .i64 15), .lit (.int .i64 12), .lit (.int .i64 9), .lit (.int .i64 6), .lit (.int .i64 3)]

/-- 'slotmeshlaw11.HopMatchesReference': WHATEVER THE INPUT: true; the input reads as it did. -/
def hopMatchesReferenceSpec : ChangeSpec := { name := "hopMatchesReference", fn := fun _ => fun
  | [d1, d2, d3] => { results := [.lit (.bool true)], args := [d1, d2, d3] }
  | _ => none }
def hopMatchesReferenceRow : OpenClaim := { program := "ytbgnkopnbgaabaadoor", sum := "13f978dd14fb9756a164cf50ee92f96b3861dac52c9d6ef1a0b78fa50008657b", func := "slotmesh/slotmeshlaw11.HopMatchesReference", spec := "hopMatchesReference", named := ["slotmesh/hop.table", "slotmesh/hop.places"], apart := false, laid := [("slotmesh/hop.table", laid_slotmesh_hop_table), ("slotmesh/hop.places", laid_slotmesh_hop_places)] }
def HopMatchesReferenceSaid : Prop := hopMatchesReferenceRow.holds Tryd.pinned (OpenSpec.ofChange hopMatchesReferenceSpec)

/-- ITS FALSE NEIGHBOUR: 'it returns false'. Refute it at one input. -/
def hopMatchesReferenceWrong : ChangeSpec := { name := "hopMatchesReference", fn := fun _ => fun
  | [d1, d2, d3] => { results := [.lit (.bool false)], args := [d1, d2, d3] }
  | _ => none }
def HopMatchesReferenceWrongFalsely : Prop := hopMatchesReferenceRow.holds Tryd.pinned (OpenSpec.ofChange hopMatchesReferenceWrong)

/-- 'slotmeshlaw11.HopEach': WHATEVER THE INPUT: true; the input reads as it did. -/
def hopEachSpec : ChangeSpec := { name := "hopEach", fn := fun _ => fun
  | [d] => { results := [.lit (.bool true)], args := [d] }
  | _ => none }
def hopEachRow : OpenClaim := { program := "ytbgnkopnbgaabaadoor", sum := "13f978dd14fb9756a164cf50ee92f96b3861dac52c9d6ef1a0b78fa50008657b", func := "slotmesh/slotmeshlaw11.HopEach", spec := "hopEach", named := ["slotmesh/hop.table", "slotmesh/hop.places"], apart := false, laid := [("slotmesh/hop.table", laid_slotmesh_hop_table), ("slotmesh/hop.places", laid_slotmesh_hop_places)] }
def HopEachSaid : Prop := hopEachRow.holds Tryd.pinned (OpenSpec.ofChange hopEachSpec)

/-- ITS FALSE NEIGHBOUR: 'it returns false'. Refute it at one input. -/
def hopEachWrong : ChangeSpec := { name := "hopEach", fn := fun _ => fun
  | [d] => { results := [.lit (.bool false)], args := [d] }
  | _ => none }
def HopEachWrongFalsely : Prop := hopEachRow.holds Tryd.pinned (OpenSpec.ofChange hopEachWrong)

/-- 'slotmeshlaw11.HopInverse': WHATEVER THE INPUT: true; the input reads as it did. -/
def hopInverseSpec : ChangeSpec := { name := "hopInverse", fn := fun _ => fun
  | [d1, d2] => { results := [.lit (.bool true)], args := [d1, d2] }
  | _ => none }
def hopInverseRow : OpenClaim := { program := "ytbgnkopnbgaabaadoor", sum := "13f978dd14fb9756a164cf50ee92f96b3861dac52c9d6ef1a0b78fa50008657b", func := "slotmesh/slotmeshlaw11.HopInverse", spec := "hopInverse", named := ["slotmesh/hop.table", "slotmesh/hop.places"], apart := false, laid := [("slotmesh/hop.table", laid_slotmesh_hop_table), ("slotmesh/hop.places", laid_slotmesh_hop_places)] }
def HopInverseSaid : Prop := hopInverseRow.holds Tryd.pinned (OpenSpec.ofChange hopInverseSpec)

/-- ITS FALSE NEIGHBOUR: 'it returns false'. Refute it at one input. -/
def hopInverseWrong : ChangeSpec := { name := "hopInverse", fn := fun _ => fun
  | [d1, d2] => { results := [.lit (.bool false)], args := [d1, d2] }
  | _ => none }
def HopInverseWrongFalsely : Prop := hopInverseRow.holds Tryd.pinned (OpenSpec.ofChange hopInverseWrong)

/-- 'slotmeshlaw11.HopAll': WHATEVER THE INPUT: true; the input reads as it did. -/
def hopAllSpec : ChangeSpec := { name := "hopAll", fn := fun _ => fun
  | [d1, d2] => { results := [.lit (.bool true)], args := [d1, d2] }
  | _ => none }
def hopAllRow : OpenClaim := { program := "ytbgnkopnbgaabaadoor", sum := "13f978dd14fb9756a164cf50ee92f96b3861dac52c9d6ef1a0b78fa50008657b", func := "slotmesh/slotmeshlaw11.HopAll", spec := "hopAll", named := ["slotmesh/hop.table", "slotmesh/hop.places"], apart := false, laid := [("slotmesh/hop.table", laid_slotmesh_hop_table), ("slotmesh/hop.places", laid_slotmesh_hop_places)] }
def HopAllSaid : Prop := hopAllRow.holds Tryd.pinned (OpenSpec.ofChange hopAllSpec)

/-- ITS FALSE NEIGHBOUR: 'it returns false'. Refute it at one input. -/
def hopAllWrong : ChangeSpec := { name := "hopAll", fn := fun _ => fun
  | [d1, d2] => { results := [.lit (.bool false)], args := [d1, d2] }
  | _ => none }
def HopAllWrongFalsely : Prop := hopAllRow.holds Tryd.pinned (OpenSpec.ofChange hopAllWrong)

/-- 'slotmeshlaw11.HopWait': WHATEVER THE INPUT: true; the input reads as it did. -/
def hopWaitSpec : ChangeSpec := { name := "hopWait", fn := fun _ => fun
  | [d1, d2, d3] => { results := [.lit (.bool true)], args := [d1, d2, d3] }
  | _ => none }
def hopWaitRow : OpenClaim := { program := "ytbgnkopnbgaabaadoor", sum := "13f978dd14fb9756a164cf50ee92f96b3861dac52c9d6ef1a0b78fa50008657b", func := "slotmesh/slotmeshlaw11.HopWait", spec := "hopWait", named := ["slotmesh/hop.table", "slotmesh/hop.places"], apart := false, laid := [("slotmesh/hop.table", laid_slotmesh_hop_table), ("slotmesh/hop.places", laid_slotmesh_hop_places)] }
def HopWaitSaid : Prop := hopWaitRow.holds Tryd.pinned (OpenSpec.ofChange hopWaitSpec)

/-- ITS FALSE NEIGHBOUR: 'it returns false'. Refute it at one input. -/
def hopWaitWrong : ChangeSpec := { name := "hopWait", fn := fun _ => fun
  | [d1, d2, d3] => { results := [.lit (.bool false)], args := [d1, d2, d3] }
  | _ => none }
def HopWaitWrongFalsely : Prop := hopWaitRow.holds Tryd.pinned (OpenSpec.ofChange hopWaitWrong)

/-- 'slotmeshtop.TopOffsets': WHATEVER THE INPUT: true; the input reads as it did. -/
def topOffsetsSpec : ChangeSpec := { name := "topOffsets", fn := fun _ => fun
  | [d1, d2, d3] => { results := [.lit (.bool true)], args := [d1, d2, d3] }
  | _ => none }
def topOffsetsRow : OpenClaim := { program := "ytbgnkopnbgaabaadoor", sum := "13f978dd14fb9756a164cf50ee92f96b3861dac52c9d6ef1a0b78fa50008657b", func := "slotmesh/slotmeshtop.TopOffsets", spec := "topOffsets", unfollowed := true, recurses := true, named := ["slotmesh/hop.table"], apart := false, laid := [("slotmesh/hop.table", laid_slotmesh_hop_table)] }
def TopOffsetsSaid : Prop := topOffsetsRow.holds Tryd.pinned (OpenSpec.ofChange topOffsetsSpec)

/-- ITS FALSE NEIGHBOUR: 'it returns false'. Refute it at one input. -/
def topOffsetsWrong : ChangeSpec := { name := "topOffsets", fn := fun _ => fun
  | [d1, d2, d3] => { results := [.lit (.bool false)], args := [d1, d2, d3] }
  | _ => none }
def TopOffsetsWrongFalsely : Prop := topOffsetsRow.holds Tryd.pinned (OpenSpec.ofChange topOffsetsWrong)

/-- 'slotmeshlaw11.HopShift': WHATEVER THE INPUT: true; the input reads as it did. -/
def hopShiftSpec : ChangeSpec := { name := "hopShift", fn := fun _ => fun
  | [d1, d2, d3] => { results := [.lit (.bool true)], args := [d1, d2, d3] }
  | _ => none }
def hopShiftRow : OpenClaim := { program := "ytbgnkopnbgaabaadoor", sum := "13f978dd14fb9756a164cf50ee92f96b3861dac52c9d6ef1a0b78fa50008657b", func := "slotmesh/slotmeshlaw11.HopShift", spec := "hopShift", named := ["slotmesh/hop.table", "slotmesh/hop.places"], apart := false, laid := [("slotmesh/hop.table", laid_slotmesh_hop_table), ("slotmesh/hop.places", laid_slotmesh_hop_places)] }
def HopShiftSaid : Prop := hopShiftRow.holds Tryd.pinned (OpenSpec.ofChange hopShiftSpec)

/-- ITS FALSE NEIGHBOUR: 'it returns false'. Refute it at one input. -/
def hopShiftWrong : ChangeSpec := { name := "hopShift", fn := fun _ => fun
  | [d1, d2, d3] => { results := [.lit (.bool false)], args := [d1, d2, d3] }
  | _ => none }
def HopShiftWrongFalsely : Prop := hopShiftRow.holds Tryd.pinned (OpenSpec.ofChange hopShiftWrong)

/- THE SECOND FORM. 'bulk': how many values and letters a reading holds, each counted each time it is reached (what is shared counts as often as it is met; a slice's spare places count too). A statement '..UptoSaid' is the law's where the arguments, and the package variables that the reading takes, are together of bulk at most 1048576: NARROWER than '..Said'. Prove '..Said' where nothing that the law and all that it calls make is longer than what came in: it says more and counts as full. Else prove '..UptoSaid'. A law counts once. -/
mutual
def uptoBulk {H : Type} : DataW H → Nat
  | .lit (.string bytes) => bytes.length + 1
  | .lit _ => 1
  | .nil => 1
  | .ptr d => uptoBulk d + 1
  | .slice elems spare => uptoBulkAll elems + uptoBulkAll spare + 1
  | .agg parts => uptoBulkAll parts + 1
  | .iface _ d => uptoBulk d + 1
  | .map entries => uptoBulkEntries entries + 1
  | .held _ => 1
def uptoBulkAll {H : Type} : List (DataW H) → Nat
  | [] => 0
  | d :: r => uptoBulk d + uptoBulkAll r
def uptoBulkEntries {H : Type} : List (Lit × DataW H) → Nat
  | [] => 0
  | x :: r => uptoBulkEntry x + uptoBulkEntries r
def uptoBulkEntry {H : Type} : Lit × DataW H → Nat
  | (.string bytes, d) => bytes.length + uptoBulk d + 1
  | (_, d) => uptoBulk d + 1
 end
def uptoSmall : (H : Type) → List (DataW H) → Bool := fun _ ds => decide (uptoBulkAll ds ≤ 1048576)
def OpenSpec.upto (s : _root_.Go.ChangeSpec) : _root_.Go.OpenSpec := { _root_.Go.OpenSpec.ofChange s with cond := some uptoSmall }

/-- 'slotmeshlaw11.HopMatchesReference', WHERE WHAT IT READS IS OF BULK AT MOST 1048576: true; the input reads as it did. -/
def hopMatchesReferenceUptoRow : OpenClaim := { program := "ytbgnkopnbgaabaadoor", sum := "13f978dd14fb9756a164cf50ee92f96b3861dac52c9d6ef1a0b78fa50008657b", func := "slotmesh/slotmeshlaw11.HopMatchesReference", spec := "hopMatchesReference", named := ["slotmesh/hop.table", "slotmesh/hop.places"], apart := false, laid := [("slotmesh/hop.table", laid_slotmesh_hop_table), ("slotmesh/hop.places", laid_slotmesh_hop_places)], narrowed := true }
def HopMatchesReferenceUptoSaid : Prop := hopMatchesReferenceUptoRow.holds Tryd.pinned (OpenSpec.upto hopMatchesReferenceSpec)

/-- 'slotmeshlaw11.HopEach', WHERE WHAT IT READS IS OF BULK AT MOST 1048576: true; the input reads as it did. -/
def hopEachUptoRow : OpenClaim := { program := "ytbgnkopnbgaabaadoor", sum := "13f978dd14fb9756a164cf50ee92f96b3861dac52c9d6ef1a0b78fa50008657b", func := "slotmesh/slotmeshlaw11.HopEach", spec := "hopEach", named := ["slotmesh/hop.table", "slotmesh/hop.places"], apart := false, laid := [("slotmesh/hop.table", laid_slotmesh_hop_table), ("slotmesh/hop.places", laid_slotmesh_hop_places)], narrowed := true }
def HopEachUptoSaid : Prop := hopEachUptoRow.holds Tryd.pinned (OpenSpec.upto hopEachSpec)

/-- 'slotmeshlaw11.HopInverse', WHERE WHAT IT READS IS OF BULK AT MOST 1048576: true; the input reads as it did. -/
def hopInverseUptoRow : OpenClaim := { program := "ytbgnkopnbgaabaadoor", sum := "13f978dd14fb9756a164cf50ee92f96b3861dac52c9d6ef1a0b78fa50008657b", func := "slotmesh/slotmeshlaw11.HopInverse", spec := "hopInverse", named := ["slotmesh/hop.table", "slotmesh/hop.places"], apart := false, laid := [("slotmesh/hop.table", laid_slotmesh_hop_table), ("slotmesh/hop.places", laid_slotmesh_hop_places)], narrowed := true }
def HopInverseUptoSaid : Prop := hopInverseUptoRow.holds Tryd.pinned (OpenSpec.upto hopInverseSpec)

/-- 'slotmeshlaw11.HopAll', WHERE WHAT IT READS IS OF BULK AT MOST 1048576: true; the input reads as it did. -/
def hopAllUptoRow : OpenClaim := { program := "ytbgnkopnbgaabaadoor", sum := "13f978dd14fb9756a164cf50ee92f96b3861dac52c9d6ef1a0b78fa50008657b", func := "slotmesh/slotmeshlaw11.HopAll", spec := "hopAll", named := ["slotmesh/hop.table", "slotmesh/hop.places"], apart := false, laid := [("slotmesh/hop.table", laid_slotmesh_hop_table), ("slotmesh/hop.places", laid_slotmesh_hop_places)], narrowed := true }
def HopAllUptoSaid : Prop := hopAllUptoRow.holds Tryd.pinned (OpenSpec.upto hopAllSpec)

/-- 'slotmeshlaw11.HopWait', WHERE WHAT IT READS IS OF BULK AT MOST 1048576: true; the input reads as it did. -/
def hopWaitUptoRow : OpenClaim := { program := "ytbgnkopnbgaabaadoor", sum := "13f978dd14fb9756a164cf50ee92f96b3861dac52c9d6ef1a0b78fa50008657b", func := "slotmesh/slotmeshlaw11.HopWait", spec := "hopWait", named := ["slotmesh/hop.table", "slotmesh/hop.places"], apart := false, laid := [("slotmesh/hop.table", laid_slotmesh_hop_table), ("slotmesh/hop.places", laid_slotmesh_hop_places)], narrowed := true }
def HopWaitUptoSaid : Prop := hopWaitUptoRow.holds Tryd.pinned (OpenSpec.upto hopWaitSpec)

/-- 'slotmeshtop.TopOffsets', WHERE WHAT IT READS IS OF BULK AT MOST 1048576: true; the input reads as it did. -/
def topOffsetsUptoRow : OpenClaim := { program := "ytbgnkopnbgaabaadoor", sum := "13f978dd14fb9756a164cf50ee92f96b3861dac52c9d6ef1a0b78fa50008657b", func := "slotmesh/slotmeshtop.TopOffsets", spec := "topOffsets", unfollowed := true, recurses := true, named := ["slotmesh/hop.table"], apart := false, laid := [("slotmesh/hop.table", laid_slotmesh_hop_table)], narrowed := true }
def TopOffsetsUptoSaid : Prop := topOffsetsUptoRow.holds Tryd.pinned (OpenSpec.upto topOffsetsSpec)

/-- 'slotmeshlaw11.HopShift', WHERE WHAT IT READS IS OF BULK AT MOST 1048576: true; the input reads as it did. -/
def hopShiftUptoRow : OpenClaim := { program := "ytbgnkopnbgaabaadoor", sum := "13f978dd14fb9756a164cf50ee92f96b3861dac52c9d6ef1a0b78fa50008657b", func := "slotmesh/slotmeshlaw11.HopShift", spec := "hopShift", named := ["slotmesh/hop.table", "slotmesh/hop.places"], apart := false, laid := [("slotmesh/hop.table", laid_slotmesh_hop_table), ("slotmesh/hop.places", laid_slotmesh_hop_places)], narrowed := true }
def HopShiftUptoSaid : Prop := hopShiftUptoRow.holds Tryd.pinned (OpenSpec.upto hopShiftSpec)

end Rows
end Go.Proofs.YtbgnkopnbgaabaaDoor

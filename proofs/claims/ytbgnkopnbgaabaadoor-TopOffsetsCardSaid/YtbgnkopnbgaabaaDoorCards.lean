/-
  DERIVED. GIVEN WITH THE SEED: THE CARDS: each row of YtbgnkopnbgaabaaDoorRows.lean that lists a variable, with what it lists TIED to the program's text (the seventh form; the later family's looks); each row that meets fmt, with fmt's text TOLD by the authors' own Lean function (tested against real Go, not proved from fmt's source: count such statements apart). THE CARD IS WHAT COUNTS. Prove the row's statement (the work); the ties are given (YtbgnkopnbgaabaaDoorTie.lean); close each card by the builder's one call (the guide's Derived/Test/ToyasCard.lean, 'card_holds'). Laid BY PROGRAM, IN A SANDBOX (cutbox-door.mjs). By AI agents, Wed Nov 11 2026. No macro, syntax, notation, axiom, sorry.
-/
import Derived.Test.YtbgnkopnbgaabaaDoorRows
import GoSem.ClaimSeven
namespace Go.Proofs.YtbgnkopnbgaabaaDoor
namespace Rows

/-- THE TIED CARD OF 'slotmeshlaw11.HopMatchesReference'. -/
def hopMatchesReferenceCard : Claim7 := { stood := { row := hopMatchesReferenceRow, standIns := [], harness := (true, "a314980c81b9b9b7d5cf75b04e25b76477ed6a8584cadb7a2bebd09a454447e2"), looks := false }, kinds := [], alts := [], laidByText := true, laidKinds := [.data, .data], laidTests := true, laidLooks := .later }
def HopMatchesReferenceCardSaid : Prop := Claim7.holds Tryd.pinned (.plain (OpenSpec.ofChange hopMatchesReferenceSpec)) hopMatchesReferenceCard

/-- THE TIED CARD OF 'slotmeshlaw11.HopEach'. -/
def hopEachCard : Claim7 := { stood := { row := hopEachRow, standIns := [], harness := (true, "a314980c81b9b9b7d5cf75b04e25b76477ed6a8584cadb7a2bebd09a454447e2"), looks := false }, kinds := [], alts := [], laidByText := true, laidKinds := [.data, .data], laidTests := true, laidLooks := .later }
def HopEachCardSaid : Prop := Claim7.holds Tryd.pinned (.plain (OpenSpec.ofChange hopEachSpec)) hopEachCard

/-- THE TIED CARD OF 'slotmeshlaw11.HopInverse'. -/
def hopInverseCard : Claim7 := { stood := { row := hopInverseRow, standIns := [], harness := (true, "a314980c81b9b9b7d5cf75b04e25b76477ed6a8584cadb7a2bebd09a454447e2"), looks := false }, kinds := [], alts := [], laidByText := true, laidKinds := [.data, .data], laidTests := true, laidLooks := .later }
def HopInverseCardSaid : Prop := Claim7.holds Tryd.pinned (.plain (OpenSpec.ofChange hopInverseSpec)) hopInverseCard

/-- THE TIED CARD OF 'slotmeshlaw11.HopAll'. -/
def hopAllCard : Claim7 := { stood := { row := hopAllRow, standIns := [], harness := (true, "a314980c81b9b9b7d5cf75b04e25b76477ed6a8584cadb7a2bebd09a454447e2"), looks := false }, kinds := [], alts := [], laidByText := true, laidKinds := [.data, .data], laidTests := true, laidLooks := .later }
def HopAllCardSaid : Prop := Claim7.holds Tryd.pinned (.plain (OpenSpec.ofChange hopAllSpec)) hopAllCard

/-- THE TIED CARD OF 'slotmeshlaw11.HopWait'. -/
def hopWaitCard : Claim7 := { stood := { row := hopWaitRow, standIns := [], harness := (true, "a314980c81b9b9b7d5cf75b04e25b76477ed6a8584cadb7a2bebd09a454447e2"), looks := false }, kinds := [], alts := [], laidByText := true, laidKinds := [.data, .data], laidTests := true, laidLooks := .later }
def HopWaitCardSaid : Prop := Claim7.holds Tryd.pinned (.plain (OpenSpec.ofChange hopWaitSpec)) hopWaitCard

/-- THE TIED CARD OF 'slotmeshtop.TopOffsets'. -/
def topOffsetsCard : Claim7 := { stood := { row := topOffsetsRow, standIns := [], harness := (true, "a314980c81b9b9b7d5cf75b04e25b76477ed6a8584cadb7a2bebd09a454447e2"), looks := false }, kinds := [], alts := [], laidByText := true, laidKinds := [.data], laidTests := true, laidLooks := .later }
def TopOffsetsCardSaid : Prop := Claim7.holds Tryd.pinned (.plain (OpenSpec.ofChange topOffsetsSpec)) topOffsetsCard

/-- THE TIED CARD OF 'slotmeshlaw11.HopShift'. -/
def hopShiftCard : Claim7 := { stood := { row := hopShiftRow, standIns := [], harness := (true, "a314980c81b9b9b7d5cf75b04e25b76477ed6a8584cadb7a2bebd09a454447e2"), looks := false }, kinds := [], alts := [], laidByText := true, laidKinds := [.data, .data], laidTests := true, laidLooks := .later }
def HopShiftCardSaid : Prop := Claim7.holds Tryd.pinned (.plain (OpenSpec.ofChange hopShiftSpec)) hopShiftCard

/-- THE SECOND FORM's CARD OF 'slotmeshlaw11.HopMatchesReference'. -/
def hopMatchesReferenceUptoCard : Claim7 := { stood := { row := hopMatchesReferenceUptoRow, standIns := [], harness := (true, "a314980c81b9b9b7d5cf75b04e25b76477ed6a8584cadb7a2bebd09a454447e2"), looks := false }, kinds := [], alts := [], laidByText := true, laidKinds := [.data, .data], laidTests := true, laidLooks := .later }
def HopMatchesReferenceUptoCardSaid : Prop := Claim7.holds Tryd.pinned (.plain (OpenSpec.upto hopMatchesReferenceSpec)) hopMatchesReferenceUptoCard

/-- THE SECOND FORM's CARD OF 'slotmeshlaw11.HopEach'. -/
def hopEachUptoCard : Claim7 := { stood := { row := hopEachUptoRow, standIns := [], harness := (true, "a314980c81b9b9b7d5cf75b04e25b76477ed6a8584cadb7a2bebd09a454447e2"), looks := false }, kinds := [], alts := [], laidByText := true, laidKinds := [.data, .data], laidTests := true, laidLooks := .later }
def HopEachUptoCardSaid : Prop := Claim7.holds Tryd.pinned (.plain (OpenSpec.upto hopEachSpec)) hopEachUptoCard

/-- THE SECOND FORM's CARD OF 'slotmeshlaw11.HopInverse'. -/
def hopInverseUptoCard : Claim7 := { stood := { row := hopInverseUptoRow, standIns := [], harness := (true, "a314980c81b9b9b7d5cf75b04e25b76477ed6a8584cadb7a2bebd09a454447e2"), looks := false }, kinds := [], alts := [], laidByText := true, laidKinds := [.data, .data], laidTests := true, laidLooks := .later }
def HopInverseUptoCardSaid : Prop := Claim7.holds Tryd.pinned (.plain (OpenSpec.upto hopInverseSpec)) hopInverseUptoCard

/-- THE SECOND FORM's CARD OF 'slotmeshlaw11.HopAll'. -/
def hopAllUptoCard : Claim7 := { stood := { row := hopAllUptoRow, standIns := [], harness := (true, "a314980c81b9b9b7d5cf75b04e25b76477ed6a8584cadb7a2bebd09a454447e2"), looks := false }, kinds := [], alts := [], laidByText := true, laidKinds := [.data, .data], laidTests := true, laidLooks := .later }
def HopAllUptoCardSaid : Prop := Claim7.holds Tryd.pinned (.plain (OpenSpec.upto hopAllSpec)) hopAllUptoCard

/-- THE SECOND FORM's CARD OF 'slotmeshlaw11.HopWait'. -/
def hopWaitUptoCard : Claim7 := { stood := { row := hopWaitUptoRow, standIns := [], harness := (true, "a314980c81b9b9b7d5cf75b04e25b76477ed6a8584cadb7a2bebd09a454447e2"), looks := false }, kinds := [], alts := [], laidByText := true, laidKinds := [.data, .data], laidTests := true, laidLooks := .later }
def HopWaitUptoCardSaid : Prop := Claim7.holds Tryd.pinned (.plain (OpenSpec.upto hopWaitSpec)) hopWaitUptoCard

/-- THE SECOND FORM's CARD OF 'slotmeshtop.TopOffsets'. -/
def topOffsetsUptoCard : Claim7 := { stood := { row := topOffsetsUptoRow, standIns := [], harness := (true, "a314980c81b9b9b7d5cf75b04e25b76477ed6a8584cadb7a2bebd09a454447e2"), looks := false }, kinds := [], alts := [], laidByText := true, laidKinds := [.data], laidTests := true, laidLooks := .later }
def TopOffsetsUptoCardSaid : Prop := Claim7.holds Tryd.pinned (.plain (OpenSpec.upto topOffsetsSpec)) topOffsetsUptoCard

/-- THE SECOND FORM's CARD OF 'slotmeshlaw11.HopShift'. -/
def hopShiftUptoCard : Claim7 := { stood := { row := hopShiftUptoRow, standIns := [], harness := (true, "a314980c81b9b9b7d5cf75b04e25b76477ed6a8584cadb7a2bebd09a454447e2"), looks := false }, kinds := [], alts := [], laidByText := true, laidKinds := [.data, .data], laidTests := true, laidLooks := .later }
def HopShiftUptoCardSaid : Prop := Claim7.holds Tryd.pinned (.plain (OpenSpec.upto hopShiftSpec)) hopShiftUptoCard
end Rows
end Go.Proofs.YtbgnkopnbgaabaaDoor

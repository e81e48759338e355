/-
  DERIVED. GIVEN WITH THE SEED: THE CARDS: each row of YtbogjkggfdhckaaGreatDoorRows.lean that lists a variable, with what it lists TIED to the program's text (the seventh form; the later family's looks); each row that meets fmt, with fmt's text TOLD by the authors' own Lean function (tested against real Go, not proved from fmt's source: count such statements apart). THE CARD IS WHAT COUNTS. Prove the row's statement (the work); the ties are given (YtbogjkggfdhckaaGreatDoorTie.lean); close each card by the builder's one call (the guide's Derived/Test/ToyasCard.lean, 'card_holds'). Laid BY PROGRAM, IN A SANDBOX (cutbox-door.mjs). By AI agents, Wed Nov 11 2026. No macro, syntax, notation, axiom, sorry.
-/
import Derived.Test.YtbogjkggfdhckaaGreatDoorRows
import GoSem.ClaimSeven
namespace Go.Proofs.YtbogjkggfdhckaaGreatDoor
namespace Rows

/-- THE TIED CARD OF 'umpirelaw21.LateReads'. -/
def lateReadsCard : Claim7 := { stood := { row := lateReadsRow, standIns := [], harness := (true, "f5de83f4b9c872530b71c02b1a569b49d3dbad0222d334cb0038ade120b41b9c"), looks := false }, kinds := [], alts := [], laidByText := true, laidKinds := [.sentinel, .sentinel, .sentinel, .sentinel, .sentinel, .sentinel, .sentinel, .sentinel, .sentinel, .sentinel, .sentinel, .data, .data, .data, .data, .data, .data], laidTests := true, laidLooks := .later }
def LateReadsCardSaid : Prop := Claim7.holds Tryz.pinned (.plain (OpenSpec.ofChange lateReadsSpec)) lateReadsCard

/-- THE TIED CARD OF 'umpirelaw21.LateTries'. -/
def lateTriesCard : Claim7 := { stood := { row := lateTriesRow, standIns := [], harness := (true, "f5de83f4b9c872530b71c02b1a569b49d3dbad0222d334cb0038ade120b41b9c"), looks := false }, kinds := [], alts := [], laidByText := true, laidKinds := [.sentinel, .sentinel, .sentinel, .sentinel, .sentinel, .sentinel, .sentinel, .sentinel, .sentinel, .sentinel, .sentinel, .data, .data, .data, .data, .data, .data], laidTests := true, laidLooks := .later }
def LateTriesCardSaid : Prop := Claim7.holds Tryz.pinned (.plain (OpenSpec.ofChange lateTriesSpec)) lateTriesCard

/-- THE TIED CARD OF 'umpirelaw21.LateBehind'. -/
def lateBehindCard : Claim7 := { stood := { row := lateBehindRow, standIns := [], harness := (true, "f5de83f4b9c872530b71c02b1a569b49d3dbad0222d334cb0038ade120b41b9c"), looks := false }, kinds := [], alts := [], laidByText := true, laidKinds := [.sentinel, .sentinel, .sentinel, .sentinel, .sentinel, .sentinel, .sentinel, .sentinel, .sentinel, .sentinel, .sentinel, .data, .data, .data, .data, .data, .data], laidTests := true, laidLooks := .later }
def LateBehindCardSaid : Prop := Claim7.holds Tryz.pinned (.plain (OpenSpec.ofChange lateBehindSpec)) lateBehindCard

/-- THE TIED CARD OF 'umpirelaw20.LatchBehind'. -/
def latchBehindCard : Claim7 := { stood := { row := latchBehindRow, standIns := [], harness := (true, "f5de83f4b9c872530b71c02b1a569b49d3dbad0222d334cb0038ade120b41b9c"), looks := false }, kinds := [], alts := [], laidByText := true, laidKinds := [.sentinel, .sentinel, .sentinel, .sentinel, .sentinel, .sentinel, .sentinel, .sentinel, .sentinel, .sentinel, .sentinel, .data, .data, .data, .data, .data, .data], laidTests := true, laidLooks := .later }
def LatchBehindCardSaid : Prop := Claim7.holds Tryz.pinned (.plain (OpenSpec.ofChange latchBehindSpec)) latchBehindCard

/-- THE TIED CARD OF 'umpirelaw19.ClockReads'. -/
def clockReadsCard : Claim7 := { stood := { row := clockReadsRow, standIns := [], harness := (true, "f5de83f4b9c872530b71c02b1a569b49d3dbad0222d334cb0038ade120b41b9c"), looks := false }, kinds := [], alts := [], laidByText := true, laidKinds := [.sentinel, .sentinel, .sentinel, .sentinel, .sentinel, .sentinel, .sentinel, .sentinel, .sentinel, .sentinel, .sentinel, .data, .data, .data, .data, .data, .data], laidTests := true, laidLooks := .later }
def ClockReadsCardSaid : Prop := Claim7.holds Tryz.pinned (.plain (OpenSpec.ofChange clockReadsSpec)) clockReadsCard

/-- THE TIED CARD OF 'umpirelaw19.ClockAlone'. -/
def clockAloneCard : Claim7 := { stood := { row := clockAloneRow, standIns := [], harness := (true, "f5de83f4b9c872530b71c02b1a569b49d3dbad0222d334cb0038ade120b41b9c"), looks := false }, kinds := [], alts := [], laidByText := true, laidKinds := [.sentinel, .sentinel, .sentinel, .sentinel, .sentinel, .sentinel, .sentinel, .sentinel, .sentinel, .sentinel, .sentinel, .data, .data, .data, .data, .data, .data], laidTests := true, laidLooks := .later }
def ClockAloneCardSaid : Prop := Claim7.holds Tryz.pinned (.plain (OpenSpec.ofChange clockAloneSpec)) clockAloneCard

/-- THE TIED CARD OF 'umpirelaw19.ClockBehind'. -/
def clockBehindCard : Claim7 := { stood := { row := clockBehindRow, standIns := [], harness := (true, "f5de83f4b9c872530b71c02b1a569b49d3dbad0222d334cb0038ade120b41b9c"), looks := false }, kinds := [], alts := [], laidByText := true, laidKinds := [.sentinel, .sentinel, .sentinel, .sentinel, .sentinel, .sentinel, .sentinel, .sentinel, .sentinel, .sentinel, .sentinel, .data, .data, .data, .data, .data, .data], laidTests := true, laidLooks := .later }
def ClockBehindCardSaid : Prop := Claim7.holds Tryz.pinned (.plain (OpenSpec.ofChange clockBehindSpec)) clockBehindCard

/-- THE SECOND FORM's CARD OF 'umpirelaw21.LateReads'. -/
def lateReadsUptoCard : Claim7 := { stood := { row := lateReadsUptoRow, standIns := [], harness := (true, "f5de83f4b9c872530b71c02b1a569b49d3dbad0222d334cb0038ade120b41b9c"), looks := false }, kinds := [], alts := [], laidByText := true, laidKinds := [.sentinel, .sentinel, .sentinel, .sentinel, .sentinel, .sentinel, .sentinel, .sentinel, .sentinel, .sentinel, .sentinel, .data, .data, .data, .data, .data, .data], laidTests := true, laidLooks := .later }
def LateReadsUptoCardSaid : Prop := Claim7.holds Tryz.pinned (.plain (OpenSpec.upto lateReadsSpec)) lateReadsUptoCard

/-- THE SECOND FORM's CARD OF 'umpirelaw21.LateTries'. -/
def lateTriesUptoCard : Claim7 := { stood := { row := lateTriesUptoRow, standIns := [], harness := (true, "f5de83f4b9c872530b71c02b1a569b49d3dbad0222d334cb0038ade120b41b9c"), looks := false }, kinds := [], alts := [], laidByText := true, laidKinds := [.sentinel, .sentinel, .sentinel, .sentinel, .sentinel, .sentinel, .sentinel, .sentinel, .sentinel, .sentinel, .sentinel, .data, .data, .data, .data, .data, .data], laidTests := true, laidLooks := .later }
def LateTriesUptoCardSaid : Prop := Claim7.holds Tryz.pinned (.plain (OpenSpec.upto lateTriesSpec)) lateTriesUptoCard

/-- THE SECOND FORM's CARD OF 'umpirelaw21.LateBehind'. -/
def lateBehindUptoCard : Claim7 := { stood := { row := lateBehindUptoRow, standIns := [], harness := (true, "f5de83f4b9c872530b71c02b1a569b49d3dbad0222d334cb0038ade120b41b9c"), looks := false }, kinds := [], alts := [], laidByText := true, laidKinds := [.sentinel, .sentinel, .sentinel, .sentinel, .sentinel, .sentinel, .sentinel, .sentinel, .sentinel, .sentinel, .sentinel, .data, .data, .data, .data, .data, .data], laidTests := true, laidLooks := .later }
def LateBehindUptoCardSaid : Prop := Claim7.holds Tryz.pinned (.plain (OpenSpec.upto lateBehindSpec)) lateBehindUptoCard

/-- THE SECOND FORM's CARD OF 'umpirelaw20.LatchBehind'. -/
def latchBehindUptoCard : Claim7 := { stood := { row := latchBehindUptoRow, standIns := [], harness := (true, "f5de83f4b9c872530b71c02b1a569b49d3dbad0222d334cb0038ade120b41b9c"), looks := false }, kinds := [], alts := [], laidByText := true, laidKinds := [.sentinel, .sentinel, .sentinel, .sentinel, .sentinel, .sentinel, .sentinel, .sentinel, .sentinel, .sentinel, .sentinel, .data, .data, .data, .data, .data, .data], laidTests := true, laidLooks := .later }
def LatchBehindUptoCardSaid : Prop := Claim7.holds Tryz.pinned (.plain (OpenSpec.upto latchBehindSpec)) latchBehindUptoCard

/-- THE SECOND FORM's CARD OF 'umpirelaw19.ClockReads'. -/
def clockReadsUptoCard : Claim7 := { stood := { row := clockReadsUptoRow, standIns := [], harness := (true, "f5de83f4b9c872530b71c02b1a569b49d3dbad0222d334cb0038ade120b41b9c"), looks := false }, kinds := [], alts := [], laidByText := true, laidKinds := [.sentinel, .sentinel, .sentinel, .sentinel, .sentinel, .sentinel, .sentinel, .sentinel, .sentinel, .sentinel, .sentinel, .data, .data, .data, .data, .data, .data], laidTests := true, laidLooks := .later }
def ClockReadsUptoCardSaid : Prop := Claim7.holds Tryz.pinned (.plain (OpenSpec.upto clockReadsSpec)) clockReadsUptoCard

/-- THE SECOND FORM's CARD OF 'umpirelaw19.ClockAlone'. -/
def clockAloneUptoCard : Claim7 := { stood := { row := clockAloneUptoRow, standIns := [], harness := (true, "f5de83f4b9c872530b71c02b1a569b49d3dbad0222d334cb0038ade120b41b9c"), looks := false }, kinds := [], alts := [], laidByText := true, laidKinds := [.sentinel, .sentinel, .sentinel, .sentinel, .sentinel, .sentinel, .sentinel, .sentinel, .sentinel, .sentinel, .sentinel, .data, .data, .data, .data, .data, .data], laidTests := true, laidLooks := .later }
def ClockAloneUptoCardSaid : Prop := Claim7.holds Tryz.pinned (.plain (OpenSpec.upto clockAloneSpec)) clockAloneUptoCard

/-- THE SECOND FORM's CARD OF 'umpirelaw19.ClockBehind'. -/
def clockBehindUptoCard : Claim7 := { stood := { row := clockBehindUptoRow, standIns := [], harness := (true, "f5de83f4b9c872530b71c02b1a569b49d3dbad0222d334cb0038ade120b41b9c"), looks := false }, kinds := [], alts := [], laidByText := true, laidKinds := [.sentinel, .sentinel, .sentinel, .sentinel, .sentinel, .sentinel, .sentinel, .sentinel, .sentinel, .sentinel, .sentinel, .data, .data, .data, .data, .data, .data], laidTests := true, laidLooks := .later }
def ClockBehindUptoCardSaid : Prop := Claim7.holds Tryz.pinned (.plain (OpenSpec.upto clockBehindSpec)) clockBehindUptoCard
end Rows
end Go.Proofs.YtbogjkggfdhckaaGreatDoor

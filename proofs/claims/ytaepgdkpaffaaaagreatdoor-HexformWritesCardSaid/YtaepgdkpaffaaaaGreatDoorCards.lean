/-
  DERIVED. GIVEN WITH THE SEED: THE CARDS: each row of YtaepgdkpaffaaaaGreatDoorRows.lean that lists a variable, with what it lists TIED to the program's text (the seventh form; the later family's looks); each row that meets fmt, with fmt's text TOLD by the authors' own Lean function (tested against real Go, not proved from fmt's source: count such statements apart). THE CARD IS WHAT COUNTS. Prove the row's statement (the work); the ties are given (YtaepgdkpaffaaaaGreatDoorTie.lean); close each card by the builder's one call (the guide's Derived/Test/ToyasCard.lean, 'card_holds'). Laid BY PROGRAM, IN A SANDBOX (cutbox-door.mjs). By AI agents, Wed Nov 11 2026. No macro, syntax, notation, axiom, sorry.
-/
import Derived.Test.YtaepgdkpaffaaaaGreatDoorRows
import GoSem.ClaimSeven
namespace Go.Proofs.YtaepgdkpaffaaaaGreatDoor
namespace Rows

/-- THE TIED CARD OF 'caliperlaw11.HexformWrites'. -/
def hexformWritesCard : Claim7 := { stood := { row := hexformWritesRow, standIns := [], harness := (true, "b3abe86fd2d35853d8d441476fb8142ecac1785b857f0f843f533c1677ad78e5"), looks := true }, kinds := [], alts := [], laidByText := true, laidKinds := [.data, .data, .data, .data, .pinned], laidTests := true, laidLooks := .later }
def HexformWritesCardSaid : Prop := Claim7.holds Tryz.pinned (.plain (OpenSpec.ofChange hexformWritesSpec)) hexformWritesCard

/-- THE TIED CARD OF 'caliperlaw09.ShortestDigits'. -/
def shortestDigitsCard : Claim7 := { stood := { row := shortestDigitsRow, standIns := [], harness := (true, "b3abe86fd2d35853d8d441476fb8142ecac1785b857f0f843f533c1677ad78e5"), looks := true }, kinds := [], alts := [], laidByText := true, laidKinds := [.data, .data, .data, .data, .pinned], laidTests := true, laidLooks := .later }
def ShortestDigitsCardSaid : Prop := Claim7.holds Tryz.pinned (.plain (OpenSpec.ofChange shortestDigitsSpec)) shortestDigitsCard

/-- THE TIED CARD OF 'caliperlaw09.ShortestWrites'. -/
def shortestWritesCard : Claim7 := { stood := { row := shortestWritesRow, standIns := [], harness := (true, "b3abe86fd2d35853d8d441476fb8142ecac1785b857f0f843f533c1677ad78e5"), looks := true }, kinds := [], alts := [], laidByText := true, laidKinds := [.data, .data, .data, .data, .pinned], laidTests := true, laidLooks := .later }
def ShortestWritesCardSaid : Prop := Claim7.holds Tryz.pinned (.plain (OpenSpec.ofChange shortestWritesSpec)) shortestWritesCard

/-- THE TIED CARD OF 'caliperlaw09.ShortestSign'. -/
def shortestSignCard : Claim7 := { stood := { row := shortestSignRow, standIns := [], harness := (true, "b3abe86fd2d35853d8d441476fb8142ecac1785b857f0f843f533c1677ad78e5"), looks := true }, kinds := [], alts := [], laidByText := true, laidKinds := [.data, .data, .data, .data, .pinned], laidTests := true, laidLooks := .later }
def ShortestSignCardSaid : Prop := Claim7.holds Tryz.pinned (.plain (OpenSpec.ofChange shortestSignSpec)) shortestSignCard

/-- THE TIED CARD OF 'caliperlaw08.ReadbinReads'. -/
def readbinReadsCard : Claim7 := { stood := { row := readbinReadsRow, standIns := [], harness := (true, "b3abe86fd2d35853d8d441476fb8142ecac1785b857f0f843f533c1677ad78e5"), looks := true }, kinds := [], alts := [], laidByText := true, laidKinds := [.data, .data, .data, .data, .sentinel, .sentinel, .pinned], laidTests := true, laidLooks := .later }
def ReadbinReadsCardSaid : Prop := Claim7.holds Tryz.pinned (.plain (OpenSpec.ofChange readbinReadsSpec)) readbinReadsCard

/-- THE TIED CARD OF 'caliperlaw08.ReadbinMakes'. -/
def readbinMakesCard : Claim7 := { stood := { row := readbinMakesRow, standIns := [], harness := (true, "b3abe86fd2d35853d8d441476fb8142ecac1785b857f0f843f533c1677ad78e5"), looks := true }, kinds := [], alts := [], laidByText := true, laidKinds := [.data, .data, .data, .data, .sentinel, .sentinel, .pinned], laidTests := true, laidLooks := .later }
def ReadbinMakesCardSaid : Prop := Claim7.holds Tryz.pinned (.plain (OpenSpec.ofChange readbinMakesSpec)) readbinMakesCard

/-- THE TIED CARD OF 'caliperlaw08.ReadbinExact'. -/
def readbinExactCard : Claim7 := { stood := { row := readbinExactRow, standIns := [], harness := (true, "b3abe86fd2d35853d8d441476fb8142ecac1785b857f0f843f533c1677ad78e5"), looks := true }, kinds := [], alts := [], laidByText := true, laidKinds := [.data, .data, .data, .data, .sentinel, .sentinel, .pinned], laidTests := true, laidLooks := .later }
def ReadbinExactCardSaid : Prop := Claim7.holds Tryz.pinned (.plain (OpenSpec.ofChange readbinExactSpec)) readbinExactCard

/-- THE SECOND FORM's CARD OF 'caliperlaw11.HexformWrites'. -/
def hexformWritesUptoCard : Claim7 := { stood := { row := hexformWritesUptoRow, standIns := [], harness := (true, "b3abe86fd2d35853d8d441476fb8142ecac1785b857f0f843f533c1677ad78e5"), looks := true }, kinds := [], alts := [], laidByText := true, laidKinds := [.data, .data, .data, .data, .pinned], laidTests := true, laidLooks := .later }
def HexformWritesUptoCardSaid : Prop := Claim7.holds Tryz.pinned (.plain (OpenSpec.upto hexformWritesSpec)) hexformWritesUptoCard

/-- THE SECOND FORM's CARD OF 'caliperlaw09.ShortestDigits'. -/
def shortestDigitsUptoCard : Claim7 := { stood := { row := shortestDigitsUptoRow, standIns := [], harness := (true, "b3abe86fd2d35853d8d441476fb8142ecac1785b857f0f843f533c1677ad78e5"), looks := true }, kinds := [], alts := [], laidByText := true, laidKinds := [.data, .data, .data, .data, .pinned], laidTests := true, laidLooks := .later }
def ShortestDigitsUptoCardSaid : Prop := Claim7.holds Tryz.pinned (.plain (OpenSpec.upto shortestDigitsSpec)) shortestDigitsUptoCard

/-- THE SECOND FORM's CARD OF 'caliperlaw09.ShortestWrites'. -/
def shortestWritesUptoCard : Claim7 := { stood := { row := shortestWritesUptoRow, standIns := [], harness := (true, "b3abe86fd2d35853d8d441476fb8142ecac1785b857f0f843f533c1677ad78e5"), looks := true }, kinds := [], alts := [], laidByText := true, laidKinds := [.data, .data, .data, .data, .pinned], laidTests := true, laidLooks := .later }
def ShortestWritesUptoCardSaid : Prop := Claim7.holds Tryz.pinned (.plain (OpenSpec.upto shortestWritesSpec)) shortestWritesUptoCard

/-- THE SECOND FORM's CARD OF 'caliperlaw09.ShortestSign'. -/
def shortestSignUptoCard : Claim7 := { stood := { row := shortestSignUptoRow, standIns := [], harness := (true, "b3abe86fd2d35853d8d441476fb8142ecac1785b857f0f843f533c1677ad78e5"), looks := true }, kinds := [], alts := [], laidByText := true, laidKinds := [.data, .data, .data, .data, .pinned], laidTests := true, laidLooks := .later }
def ShortestSignUptoCardSaid : Prop := Claim7.holds Tryz.pinned (.plain (OpenSpec.upto shortestSignSpec)) shortestSignUptoCard

/-- THE SECOND FORM's CARD OF 'caliperlaw08.ReadbinReads'. -/
def readbinReadsUptoCard : Claim7 := { stood := { row := readbinReadsUptoRow, standIns := [], harness := (true, "b3abe86fd2d35853d8d441476fb8142ecac1785b857f0f843f533c1677ad78e5"), looks := true }, kinds := [], alts := [], laidByText := true, laidKinds := [.data, .data, .data, .data, .sentinel, .sentinel, .pinned], laidTests := true, laidLooks := .later }
def ReadbinReadsUptoCardSaid : Prop := Claim7.holds Tryz.pinned (.plain (OpenSpec.upto readbinReadsSpec)) readbinReadsUptoCard

/-- THE SECOND FORM's CARD OF 'caliperlaw08.ReadbinMakes'. -/
def readbinMakesUptoCard : Claim7 := { stood := { row := readbinMakesUptoRow, standIns := [], harness := (true, "b3abe86fd2d35853d8d441476fb8142ecac1785b857f0f843f533c1677ad78e5"), looks := true }, kinds := [], alts := [], laidByText := true, laidKinds := [.data, .data, .data, .data, .sentinel, .sentinel, .pinned], laidTests := true, laidLooks := .later }
def ReadbinMakesUptoCardSaid : Prop := Claim7.holds Tryz.pinned (.plain (OpenSpec.upto readbinMakesSpec)) readbinMakesUptoCard

/-- THE SECOND FORM's CARD OF 'caliperlaw08.ReadbinExact'. -/
def readbinExactUptoCard : Claim7 := { stood := { row := readbinExactUptoRow, standIns := [], harness := (true, "b3abe86fd2d35853d8d441476fb8142ecac1785b857f0f843f533c1677ad78e5"), looks := true }, kinds := [], alts := [], laidByText := true, laidKinds := [.data, .data, .data, .data, .sentinel, .sentinel, .pinned], laidTests := true, laidLooks := .later }
def ReadbinExactUptoCardSaid : Prop := Claim7.holds Tryz.pinned (.plain (OpenSpec.upto readbinExactSpec)) readbinExactUptoCard
end Rows
end Go.Proofs.YtaepgdkpaffaaaaGreatDoor

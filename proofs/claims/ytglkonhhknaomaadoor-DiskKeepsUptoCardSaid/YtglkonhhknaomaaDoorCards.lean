/-
  DERIVED. GIVEN WITH THE SEED: THE CARDS: each row of YtglkonhhknaomaaDoorRows.lean that lists a variable, with what it lists TIED to the program's text (the seventh form; the later family's looks); each row that meets fmt, with fmt's text TOLD by the authors' own Lean function (tested against real Go, not proved from fmt's source: count such statements apart). THE CARD IS WHAT COUNTS. Prove the row's statement (the work); the ties are given (YtglkonhhknaomaaDoorTie.lean); close each card by the builder's one call (the guide's Derived/Test/ToyasCard.lean, 'card_holds'). Laid BY PROGRAM, IN A SANDBOX (cutbox-door.mjs). By AI agents, Wed Nov 11 2026. No macro, syntax, notation, axiom, sorry.
-/
import Derived.Test.YtglkonhhknaomaaDoorRows
import GoSem.ClaimSeven
namespace Go.Proofs.YtglkonhhknaomaaDoor
namespace Rows

/-- THE TIED CARD OF 'echelonlaw03.DiskStops'. -/
def diskStopsCard : Claim7 := { stood := { row := diskStopsRow, standIns := [], harness := (true, "4529cf4d43ddc901969faad51b20d50f6067152405888960094d05c79e428f21"), looks := false }, kinds := [], alts := [], laidByText := true, laidKinds := [.data, .pinned], laidTests := true, laidLooks := .later }
def DiskStopsCardSaid : Prop := Claim7.holds Tryd.pinned (.plain (OpenSpec.ofChange diskStopsSpec)) diskStopsCard

/-- THE TIED CARD OF 'echelonlaw03.DiskKeeps'. -/
def diskKeepsCard : Claim7 := { stood := { row := diskKeepsRow, standIns := [], harness := (true, "4529cf4d43ddc901969faad51b20d50f6067152405888960094d05c79e428f21"), looks := false }, kinds := [], alts := [], laidByText := true, laidKinds := [.data, .pinned], laidTests := true, laidLooks := .later }
def DiskKeepsCardSaid : Prop := Claim7.holds Tryd.pinned (.plain (OpenSpec.ofChange diskKeepsSpec)) diskKeepsCard

/-- THE SECOND FORM's CARD OF 'echelonlaw03.DiskStops'. -/
def diskStopsUptoCard : Claim7 := { stood := { row := diskStopsUptoRow, standIns := [], harness := (true, "4529cf4d43ddc901969faad51b20d50f6067152405888960094d05c79e428f21"), looks := false }, kinds := [], alts := [], laidByText := true, laidKinds := [.data, .pinned], laidTests := true, laidLooks := .later }
def DiskStopsUptoCardSaid : Prop := Claim7.holds Tryd.pinned (.plain (OpenSpec.upto diskStopsSpec)) diskStopsUptoCard

/-- THE SECOND FORM's CARD OF 'echelonlaw03.DiskKeeps'. -/
def diskKeepsUptoCard : Claim7 := { stood := { row := diskKeepsUptoRow, standIns := [], harness := (true, "4529cf4d43ddc901969faad51b20d50f6067152405888960094d05c79e428f21"), looks := false }, kinds := [], alts := [], laidByText := true, laidKinds := [.data, .pinned], laidTests := true, laidLooks := .later }
def DiskKeepsUptoCardSaid : Prop := Claim7.holds Tryd.pinned (.plain (OpenSpec.upto diskKeepsSpec)) diskKeepsUptoCard
end Rows
end Go.Proofs.YtglkonhhknaomaaDoor

/-
  DERIVED. GIVEN WITH THE SEED: THE CARDS: each row of YtcggaaheaahinaaDoorRows.lean that lists a variable, with what it lists TIED to the program's text (the seventh form; the later family's looks); each row that meets fmt, with fmt's text TOLD by the authors' own Lean function (tested against real Go, not proved from fmt's source: count such statements apart). THE CARD IS WHAT COUNTS. Prove the row's statement (the work); the ties are given (YtcggaaheaahinaaDoorTie.lean); close each card by the builder's one call (the guide's Derived/Test/ToyasCard.lean, 'card_holds'). Laid BY PROGRAM, IN A SANDBOX (cutbox-door.mjs). By AI agents, Wed Nov 11 2026. No macro, syntax, notation, axiom, sorry.
-/
import Derived.Test.YtcggaaheaahinaaDoorRows
import GoSem.ClaimSeven
namespace Go.Proofs.YtcggaaheaahinaaDoor
namespace Rows

/-- THE TIED CARD OF 'catchpolelaw18.SimpSays'. -/
def simpSaysCard : Claim7 := { stood := { row := simpSaysRow, standIns := [], harness := (true, "683bbdbfe63ed2907d7e318812076a442020ae031d3a85e12386216ae241e1db"), looks := false }, kinds := [], alts := [], laidByText := true, laidKinds := [.data, .pinned], laidTests := true, laidLooks := .later }
def SimpSaysCardSaid : Prop := Claim7.holds Tryd.pinned (.plain (OpenSpec.ofChange simpSaysSpec)) simpSaysCard

/-- THE TIED CARD OF 'catchpolelaw12.CapsSays'. -/
def capsSaysCard : Claim7 := { stood := { row := capsSaysRow, standIns := [], harness := (true, "683bbdbfe63ed2907d7e318812076a442020ae031d3a85e12386216ae241e1db"), looks := false }, kinds := [], alts := [], laidByText := true, laidKinds := [.data, .data, .data], laidTests := true, laidLooks := .later }
def CapsSaysCardSaid : Prop := Claim7.holds Tryd.pinned (.plain (OpenSpec.ofChange capsSaysSpec)) capsSaysCard

/-- THE SECOND FORM's CARD OF 'catchpolelaw18.SimpSays'. -/
def simpSaysUptoCard : Claim7 := { stood := { row := simpSaysUptoRow, standIns := [], harness := (true, "683bbdbfe63ed2907d7e318812076a442020ae031d3a85e12386216ae241e1db"), looks := false }, kinds := [], alts := [], laidByText := true, laidKinds := [.data, .pinned], laidTests := true, laidLooks := .later }
def SimpSaysUptoCardSaid : Prop := Claim7.holds Tryd.pinned (.plain (OpenSpec.upto simpSaysSpec)) simpSaysUptoCard

/-- THE SECOND FORM's CARD OF 'catchpolelaw12.CapsSays'. -/
def capsSaysUptoCard : Claim7 := { stood := { row := capsSaysUptoRow, standIns := [], harness := (true, "683bbdbfe63ed2907d7e318812076a442020ae031d3a85e12386216ae241e1db"), looks := false }, kinds := [], alts := [], laidByText := true, laidKinds := [.data, .data, .data], laidTests := true, laidLooks := .later }
def CapsSaysUptoCardSaid : Prop := Claim7.holds Tryd.pinned (.plain (OpenSpec.upto capsSaysSpec)) capsSaysUptoCard
end Rows
end Go.Proofs.YtcggaaheaahinaaDoor

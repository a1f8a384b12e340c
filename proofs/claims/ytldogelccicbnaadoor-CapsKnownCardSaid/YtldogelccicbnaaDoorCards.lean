/-
  DERIVED. GIVEN WITH THE SEED: THE CARDS: each row of YtldogelccicbnaaDoorRows.lean that lists a variable, with what it lists TIED to the program's text (the seventh form; the later family's looks); each row that meets fmt, with fmt's text TOLD by the authors' own Lean function (tested against real Go, not proved from fmt's source: count such statements apart). THE CARD IS WHAT COUNTS. Prove the row's statement (the work); the ties are given (YtldogelccicbnaaDoorTie.lean); close each card by the builder's one call (the guide's Derived/Test/ToyasCard.lean, 'card_holds'). Laid BY PROGRAM, IN A SANDBOX (cutbox-door.mjs). By AI agents, Wed Nov 11 2026. No macro, syntax, notation, axiom, sorry.
-/
import Derived.Test.YtldogelccicbnaaDoorRows
import GoSem.ClaimSeven
namespace Go.Proofs.YtldogelccicbnaaDoor
namespace Rows

/-- THE TIED CARD OF 'catchpolelaw18.SimpKnown'. -/
def simpKnownCard : Claim7 := { stood := { row := simpKnownRow, standIns := [], harness := (true, "8aca6ae10f13b5127fc516bc9562b384e7f3b2106d5fb0411cc9e618eb4127b1"), looks := false }, kinds := [], alts := [], laidByText := true, laidKinds := [.data, .pinned], laidTests := true, laidLooks := .later }
def SimpKnownCardSaid : Prop := Claim7.holds Tryd.pinned (.plain (OpenSpec.ofChange simpKnownSpec)) simpKnownCard

/-- THE TIED CARD OF 'catchpolelaw12.CapsKnown'. -/
def capsKnownCard : Claim7 := { stood := { row := capsKnownRow, standIns := [], harness := (true, "8aca6ae10f13b5127fc516bc9562b384e7f3b2106d5fb0411cc9e618eb4127b1"), looks := false }, kinds := [], alts := [], laidByText := true, laidKinds := [.data, .data, .data], laidTests := true, laidLooks := .later }
def CapsKnownCardSaid : Prop := Claim7.holds Tryd.pinned (.plain (OpenSpec.ofChange capsKnownSpec)) capsKnownCard

/-- THE TIED CARD OF 'catchpolelaw19.SulzKnown'. -/
def sulzKnownCard : Claim7 := { stood := { row := sulzKnownRow, standIns := [], harness := (true, "8aca6ae10f13b5127fc516bc9562b384e7f3b2106d5fb0411cc9e618eb4127b1"), looks := false }, kinds := [], alts := [], laidByText := true, laidKinds := [.data, .pinned], laidTests := true, laidLooks := .later }
def SulzKnownCardSaid : Prop := Claim7.holds Tryd.pinned (.plain (OpenSpec.ofChange sulzKnownSpec)) sulzKnownCard

/-- THE TIED CARD OF 'catchpolelaw17.CodedKnown'. -/
def codedKnownCard : Claim7 := { stood := { row := codedKnownRow, standIns := [], harness := (true, "8aca6ae10f13b5127fc516bc9562b384e7f3b2106d5fb0411cc9e618eb4127b1"), looks := false }, kinds := [], alts := [], laidByText := true, laidKinds := [.data, .data, .data, .data, .pinned], laidTests := true, laidLooks := .later }
def CodedKnownCardSaid : Prop := Claim7.holds Tryd.pinned (.plain (OpenSpec.ofChange codedKnownSpec)) codedKnownCard

/-- THE SECOND FORM's CARD OF 'catchpolelaw18.SimpKnown'. -/
def simpKnownUptoCard : Claim7 := { stood := { row := simpKnownUptoRow, standIns := [], harness := (true, "8aca6ae10f13b5127fc516bc9562b384e7f3b2106d5fb0411cc9e618eb4127b1"), looks := false }, kinds := [], alts := [], laidByText := true, laidKinds := [.data, .pinned], laidTests := true, laidLooks := .later }
def SimpKnownUptoCardSaid : Prop := Claim7.holds Tryd.pinned (.plain (OpenSpec.upto simpKnownSpec)) simpKnownUptoCard

/-- THE SECOND FORM's CARD OF 'catchpolelaw12.CapsKnown'. -/
def capsKnownUptoCard : Claim7 := { stood := { row := capsKnownUptoRow, standIns := [], harness := (true, "8aca6ae10f13b5127fc516bc9562b384e7f3b2106d5fb0411cc9e618eb4127b1"), looks := false }, kinds := [], alts := [], laidByText := true, laidKinds := [.data, .data, .data], laidTests := true, laidLooks := .later }
def CapsKnownUptoCardSaid : Prop := Claim7.holds Tryd.pinned (.plain (OpenSpec.upto capsKnownSpec)) capsKnownUptoCard

/-- THE SECOND FORM's CARD OF 'catchpolelaw19.SulzKnown'. -/
def sulzKnownUptoCard : Claim7 := { stood := { row := sulzKnownUptoRow, standIns := [], harness := (true, "8aca6ae10f13b5127fc516bc9562b384e7f3b2106d5fb0411cc9e618eb4127b1"), looks := false }, kinds := [], alts := [], laidByText := true, laidKinds := [.data, .pinned], laidTests := true, laidLooks := .later }
def SulzKnownUptoCardSaid : Prop := Claim7.holds Tryd.pinned (.plain (OpenSpec.upto sulzKnownSpec)) sulzKnownUptoCard

/-- THE SECOND FORM's CARD OF 'catchpolelaw17.CodedKnown'. -/
def codedKnownUptoCard : Claim7 := { stood := { row := codedKnownUptoRow, standIns := [], harness := (true, "8aca6ae10f13b5127fc516bc9562b384e7f3b2106d5fb0411cc9e618eb4127b1"), looks := false }, kinds := [], alts := [], laidByText := true, laidKinds := [.data, .data, .data, .data, .pinned], laidTests := true, laidLooks := .later }
def CodedKnownUptoCardSaid : Prop := Claim7.holds Tryd.pinned (.plain (OpenSpec.upto codedKnownSpec)) codedKnownUptoCard
end Rows
end Go.Proofs.YtldogelccicbnaaDoor

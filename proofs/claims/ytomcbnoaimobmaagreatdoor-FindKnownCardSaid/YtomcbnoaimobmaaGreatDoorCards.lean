/-
  DERIVED. GIVEN WITH THE SEED: THE CARDS: each row of YtomcbnoaimobmaaGreatDoorRows.lean that lists a variable, with what it lists TIED to the program's text (the seventh form; the later family's looks); each row that meets fmt, with fmt's text TOLD by the authors' own Lean function (tested against real Go, not proved from fmt's source: count such statements apart). THE CARD IS WHAT COUNTS. Prove the row's statement (the work); the ties are given (YtomcbnoaimobmaaGreatDoorTie.lean); close each card by the builder's one call (the guide's Derived/Test/ToyasCard.lean, 'card_holds'). Laid BY PROGRAM, IN A SANDBOX (cutbox-door.mjs). By AI agents, Wed Nov 11 2026. No macro, syntax, notation, axiom, sorry.
-/
import Derived.Test.YtomcbnoaimobmaaGreatDoorRows
import GoSem.ClaimSeven
namespace Go.Proofs.YtomcbnoaimobmaaGreatDoor
namespace Rows

/-- THE TIED CARD OF 'catchpolelaw8.CoreKnown'. -/
def coreKnownCard : Claim7 := { stood := { row := coreKnownRow, standIns := [], harness := (true, "9df81bf77021f110d8240983f6304742ed7eab0f0cb94596448054ecbdd15fb4"), looks := true }, kinds := [], alts := [], laidByText := true, laidKinds := [.data, .data, .data], laidTests := true, laidLooks := .later }
def CoreKnownCardSaid : Prop := Claim7.holds Tryz.pinned (.plain (OpenSpec.ofChange coreKnownSpec)) coreKnownCard

/-- THE TIED CARD OF 'catchpolelaw23.FindKnown'. -/
def findKnownCard : Claim7 := { stood := { row := findKnownRow, standIns := [], harness := (true, "9df81bf77021f110d8240983f6304742ed7eab0f0cb94596448054ecbdd15fb4"), looks := true }, kinds := [], alts := [], laidByText := true, laidKinds := [.data, .data, .data, .data, .pinned], laidTests := true, laidLooks := .later }
def FindKnownCardSaid : Prop := Claim7.holds Tryz.pinned (.plain (OpenSpec.ofChange findKnownSpec)) findKnownCard

/-- THE TIED CARD OF 'catchpolelaw26.AgreeKnown'. -/
def agreeKnownCard : Claim7 := { stood := { row := agreeKnownRow, standIns := [], harness := (true, "9df81bf77021f110d8240983f6304742ed7eab0f0cb94596448054ecbdd15fb4"), looks := true }, kinds := [], alts := [], laidByText := true, laidKinds := [.data, .pinned], laidTests := true, laidLooks := .later }
def AgreeKnownCardSaid : Prop := Claim7.holds Tryz.pinned (.plain (OpenSpec.ofChange agreeKnownSpec)) agreeKnownCard

/-- THE TIED CARD OF 'catchpolelaw27.BenchKnown'. -/
def benchKnownCard : Claim7 := { stood := { row := benchKnownRow, standIns := [], harness := (true, "9df81bf77021f110d8240983f6304742ed7eab0f0cb94596448054ecbdd15fb4"), looks := true }, kinds := [], alts := [], laidByText := true, laidKinds := [.data, .data, .data, .data, .pinned], laidTests := true, laidLooks := .later }
def BenchKnownCardSaid : Prop := Claim7.holds Tryz.pinned (.plain (OpenSpec.ofChange benchKnownSpec)) benchKnownCard

/-- THE SECOND FORM's CARD OF 'catchpolelaw8.CoreKnown'. -/
def coreKnownUptoCard : Claim7 := { stood := { row := coreKnownUptoRow, standIns := [], harness := (true, "9df81bf77021f110d8240983f6304742ed7eab0f0cb94596448054ecbdd15fb4"), looks := true }, kinds := [], alts := [], laidByText := true, laidKinds := [.data, .data, .data], laidTests := true, laidLooks := .later }
def CoreKnownUptoCardSaid : Prop := Claim7.holds Tryz.pinned (.plain (OpenSpec.upto coreKnownSpec)) coreKnownUptoCard

/-- THE SECOND FORM's CARD OF 'catchpolelaw23.FindKnown'. -/
def findKnownUptoCard : Claim7 := { stood := { row := findKnownUptoRow, standIns := [], harness := (true, "9df81bf77021f110d8240983f6304742ed7eab0f0cb94596448054ecbdd15fb4"), looks := true }, kinds := [], alts := [], laidByText := true, laidKinds := [.data, .data, .data, .data, .pinned], laidTests := true, laidLooks := .later }
def FindKnownUptoCardSaid : Prop := Claim7.holds Tryz.pinned (.plain (OpenSpec.upto findKnownSpec)) findKnownUptoCard

/-- THE SECOND FORM's CARD OF 'catchpolelaw26.AgreeKnown'. -/
def agreeKnownUptoCard : Claim7 := { stood := { row := agreeKnownUptoRow, standIns := [], harness := (true, "9df81bf77021f110d8240983f6304742ed7eab0f0cb94596448054ecbdd15fb4"), looks := true }, kinds := [], alts := [], laidByText := true, laidKinds := [.data, .pinned], laidTests := true, laidLooks := .later }
def AgreeKnownUptoCardSaid : Prop := Claim7.holds Tryz.pinned (.plain (OpenSpec.upto agreeKnownSpec)) agreeKnownUptoCard

/-- THE SECOND FORM's CARD OF 'catchpolelaw27.BenchKnown'. -/
def benchKnownUptoCard : Claim7 := { stood := { row := benchKnownUptoRow, standIns := [], harness := (true, "9df81bf77021f110d8240983f6304742ed7eab0f0cb94596448054ecbdd15fb4"), looks := true }, kinds := [], alts := [], laidByText := true, laidKinds := [.data, .data, .data, .data, .pinned], laidTests := true, laidLooks := .later }
def BenchKnownUptoCardSaid : Prop := Claim7.holds Tryz.pinned (.plain (OpenSpec.upto benchKnownSpec)) benchKnownUptoCard
end Rows
end Go.Proofs.YtomcbnoaimobmaaGreatDoor

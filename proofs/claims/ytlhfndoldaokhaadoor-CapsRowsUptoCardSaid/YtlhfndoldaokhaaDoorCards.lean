/-
  DERIVED. GIVEN WITH THE SEED: THE CARDS: each row of YtlhfndoldaokhaaDoorRows.lean that lists a variable, with what it lists TIED to the program's text (the seventh form; the later family's looks); each row that meets fmt, with fmt's text TOLD by the authors' own Lean function (tested against real Go, not proved from fmt's source: count such statements apart). THE CARD IS WHAT COUNTS. Prove the row's statement (the work); the ties are given (YtlhfndoldaokhaaDoorTie.lean); close each card by the builder's one call (the guide's Derived/Test/ToyasCard.lean, 'card_holds'). Laid BY PROGRAM, IN A SANDBOX (cutbox-door.mjs). By AI agents, Wed Nov 11 2026. No macro, syntax, notation, axiom, sorry.
-/
import Derived.Test.YtlhfndoldaokhaaDoorRows
import GoSem.ClaimSeven
namespace Go.Proofs.YtlhfndoldaokhaaDoor
namespace Rows

/-- THE TIED CARD OF 'catchpolelaw18.SimpSays'. -/
def simpSaysCard : Claim7 := { stood := { row := simpSaysRow, standIns := [], harness := (true, "44742312f2f3306a33ae722729f4fc85f764c41e837b414ae99f294a00976b2a"), looks := false }, kinds := [], alts := [], laidByText := true, laidKinds := [.data, .pinned], laidTests := true, laidLooks := .later }
def SimpSaysCardSaid : Prop := Claim7.holds Tryd.pinned (.plain (OpenSpec.ofChange simpSaysSpec)) simpSaysCard

/-- THE TIED CARD OF 'catchpolelaw18.SimpOnce'. -/
def simpOnceCard : Claim7 := { stood := { row := simpOnceRow, standIns := [], harness := (true, "44742312f2f3306a33ae722729f4fc85f764c41e837b414ae99f294a00976b2a"), looks := false }, kinds := [], alts := [], laidByText := true, laidKinds := [.data, .pinned], laidTests := true, laidLooks := .later }
def SimpOnceCardSaid : Prop := Claim7.holds Tryd.pinned (.plain (OpenSpec.ofChange simpOnceSpec)) simpOnceCard

/-- THE TIED CARD OF 'catchpolelaw12.CapsSays'. -/
def capsSaysCard : Claim7 := { stood := { row := capsSaysRow, standIns := [], harness := (true, "44742312f2f3306a33ae722729f4fc85f764c41e837b414ae99f294a00976b2a"), looks := false }, kinds := [], alts := [], laidByText := true, laidKinds := [.data, .data, .data], laidTests := true, laidLooks := .later }
def CapsSaysCardSaid : Prop := Claim7.holds Tryd.pinned (.plain (OpenSpec.ofChange capsSaysSpec)) capsSaysCard

/-- THE TIED CARD OF 'catchpolelaw12.CapsFew'. -/
def capsFewCard : Claim7 := { stood := { row := capsFewRow, standIns := [], harness := (true, "44742312f2f3306a33ae722729f4fc85f764c41e837b414ae99f294a00976b2a"), looks := false }, kinds := [], alts := [], laidByText := true, laidKinds := [.data, .data, .data], laidTests := true, laidLooks := .later }
def CapsFewCardSaid : Prop := Claim7.holds Tryd.pinned (.plain (OpenSpec.ofChange capsFewSpec)) capsFewCard

/-- THE TIED CARD OF 'catchpolelaw12.CapsInside'. -/
def capsInsideCard : Claim7 := { stood := { row := capsInsideRow, standIns := [], harness := (true, "44742312f2f3306a33ae722729f4fc85f764c41e837b414ae99f294a00976b2a"), looks := false }, kinds := [], alts := [], laidByText := true, laidKinds := [.data, .data, .data], laidTests := true, laidLooks := .later }
def CapsInsideCardSaid : Prop := Claim7.holds Tryd.pinned (.plain (OpenSpec.ofChange capsInsideSpec)) capsInsideCard

/-- THE TIED CARD OF 'catchpolelaw18.SimpKeeps'. -/
def simpKeepsCard : Claim7 := { stood := { row := simpKeepsRow, standIns := [], harness := (true, "44742312f2f3306a33ae722729f4fc85f764c41e837b414ae99f294a00976b2a"), looks := false }, kinds := [], alts := [], laidByText := true, laidKinds := [.data, .pinned], laidTests := true, laidLooks := .later }
def SimpKeepsCardSaid : Prop := Claim7.holds Tryd.pinned (.plain (OpenSpec.ofChange simpKeepsSpec)) simpKeepsCard

/-- THE TIED CARD OF 'catchpolelaw12.CapsRows'. -/
def capsRowsCard : Claim7 := { stood := { row := capsRowsRow, standIns := [], harness := (true, "44742312f2f3306a33ae722729f4fc85f764c41e837b414ae99f294a00976b2a"), looks := false }, kinds := [], alts := [], laidByText := true, laidKinds := [.data, .data, .data], laidTests := true, laidLooks := .later }
def CapsRowsCardSaid : Prop := Claim7.holds Tryd.pinned (.plain (OpenSpec.ofChange capsRowsSpec)) capsRowsCard

/-- THE SECOND FORM's CARD OF 'catchpolelaw18.SimpSays'. -/
def simpSaysUptoCard : Claim7 := { stood := { row := simpSaysUptoRow, standIns := [], harness := (true, "44742312f2f3306a33ae722729f4fc85f764c41e837b414ae99f294a00976b2a"), looks := false }, kinds := [], alts := [], laidByText := true, laidKinds := [.data, .pinned], laidTests := true, laidLooks := .later }
def SimpSaysUptoCardSaid : Prop := Claim7.holds Tryd.pinned (.plain (OpenSpec.upto simpSaysSpec)) simpSaysUptoCard

/-- THE SECOND FORM's CARD OF 'catchpolelaw18.SimpOnce'. -/
def simpOnceUptoCard : Claim7 := { stood := { row := simpOnceUptoRow, standIns := [], harness := (true, "44742312f2f3306a33ae722729f4fc85f764c41e837b414ae99f294a00976b2a"), looks := false }, kinds := [], alts := [], laidByText := true, laidKinds := [.data, .pinned], laidTests := true, laidLooks := .later }
def SimpOnceUptoCardSaid : Prop := Claim7.holds Tryd.pinned (.plain (OpenSpec.upto simpOnceSpec)) simpOnceUptoCard

/-- THE SECOND FORM's CARD OF 'catchpolelaw12.CapsSays'. -/
def capsSaysUptoCard : Claim7 := { stood := { row := capsSaysUptoRow, standIns := [], harness := (true, "44742312f2f3306a33ae722729f4fc85f764c41e837b414ae99f294a00976b2a"), looks := false }, kinds := [], alts := [], laidByText := true, laidKinds := [.data, .data, .data], laidTests := true, laidLooks := .later }
def CapsSaysUptoCardSaid : Prop := Claim7.holds Tryd.pinned (.plain (OpenSpec.upto capsSaysSpec)) capsSaysUptoCard

/-- THE SECOND FORM's CARD OF 'catchpolelaw12.CapsFew'. -/
def capsFewUptoCard : Claim7 := { stood := { row := capsFewUptoRow, standIns := [], harness := (true, "44742312f2f3306a33ae722729f4fc85f764c41e837b414ae99f294a00976b2a"), looks := false }, kinds := [], alts := [], laidByText := true, laidKinds := [.data, .data, .data], laidTests := true, laidLooks := .later }
def CapsFewUptoCardSaid : Prop := Claim7.holds Tryd.pinned (.plain (OpenSpec.upto capsFewSpec)) capsFewUptoCard

/-- THE SECOND FORM's CARD OF 'catchpolelaw12.CapsInside'. -/
def capsInsideUptoCard : Claim7 := { stood := { row := capsInsideUptoRow, standIns := [], harness := (true, "44742312f2f3306a33ae722729f4fc85f764c41e837b414ae99f294a00976b2a"), looks := false }, kinds := [], alts := [], laidByText := true, laidKinds := [.data, .data, .data], laidTests := true, laidLooks := .later }
def CapsInsideUptoCardSaid : Prop := Claim7.holds Tryd.pinned (.plain (OpenSpec.upto capsInsideSpec)) capsInsideUptoCard

/-- THE SECOND FORM's CARD OF 'catchpolelaw18.SimpKeeps'. -/
def simpKeepsUptoCard : Claim7 := { stood := { row := simpKeepsUptoRow, standIns := [], harness := (true, "44742312f2f3306a33ae722729f4fc85f764c41e837b414ae99f294a00976b2a"), looks := false }, kinds := [], alts := [], laidByText := true, laidKinds := [.data, .pinned], laidTests := true, laidLooks := .later }
def SimpKeepsUptoCardSaid : Prop := Claim7.holds Tryd.pinned (.plain (OpenSpec.upto simpKeepsSpec)) simpKeepsUptoCard

/-- THE SECOND FORM's CARD OF 'catchpolelaw12.CapsRows'. -/
def capsRowsUptoCard : Claim7 := { stood := { row := capsRowsUptoRow, standIns := [], harness := (true, "44742312f2f3306a33ae722729f4fc85f764c41e837b414ae99f294a00976b2a"), looks := false }, kinds := [], alts := [], laidByText := true, laidKinds := [.data, .data, .data], laidTests := true, laidLooks := .later }
def CapsRowsUptoCardSaid : Prop := Claim7.holds Tryd.pinned (.plain (OpenSpec.upto capsRowsSpec)) capsRowsUptoCard
end Rows
end Go.Proofs.YtlhfndoldaokhaaDoor

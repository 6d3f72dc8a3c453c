/-
  DERIVED. GIVEN WITH THE SEED: THE CARDS: each row of YtmpjaakkjhmpmaaGreatDoorRows.lean that lists a variable, with what it lists TIED to the program's text (the seventh form; the later family's looks); each row that meets fmt, with fmt's text TOLD by the authors' own Lean function (tested against real Go, not proved from fmt's source: count such statements apart). THE CARD IS WHAT COUNTS. Prove the row's statement (the work); the ties are given (YtmpjaakkjhmpmaaGreatDoorTie.lean); close each card by the builder's one call (the guide's Derived/Test/ToyasCard.lean, 'card_holds'). Laid BY PROGRAM, IN A SANDBOX (cutbox-door.mjs). By AI agents, Wed Nov 11 2026. No macro, syntax, notation, axiom, sorry.
-/
import Derived.Test.YtmpjaakkjhmpmaaGreatDoorRows
import GoSem.ClaimSeven
namespace Go.Proofs.YtmpjaakkjhmpmaaGreatDoor
namespace Rows

/-- THE TIED CARD OF 'lemmarylaw07.ShortTrims'. -/
def shortTrimsCard : Claim7 := { stood := { row := shortTrimsRow, standIns := [], harness := (true, "6272067c3d1601d2e21323efe9e6f56ae41cac7b6cc1a39ae17a00038bfa4063"), looks := false }, kinds := [], alts := [], laidByText := true, laidKinds := [.data, .data, .data], laidTests := true, laidLooks := .later }
def ShortTrimsCardSaid : Prop := Claim7.holds Tryz.pinned (.plain (OpenSpec.ofChange shortTrimsSpec)) shortTrimsCard

/-- THE TIED CARD OF 'lemmarylaw07.ShortLemmas'. -/
def shortLemmasCard : Claim7 := { stood := { row := shortLemmasRow, standIns := [], harness := (true, "6272067c3d1601d2e21323efe9e6f56ae41cac7b6cc1a39ae17a00038bfa4063"), looks := false }, kinds := [], alts := [], laidByText := true, laidKinds := [.data, .data, .data], laidTests := true, laidLooks := .later }
def ShortLemmasCardSaid : Prop := Claim7.holds Tryz.pinned (.plain (OpenSpec.ofChange shortLemmasSpec)) shortLemmasCard

/-- THE TIED CARD OF 'lemmarylaw07.ShortDrops'. -/
def shortDropsCard : Claim7 := { stood := { row := shortDropsRow, standIns := [], harness := (true, "6272067c3d1601d2e21323efe9e6f56ae41cac7b6cc1a39ae17a00038bfa4063"), looks := false }, kinds := [], alts := [], laidByText := true, laidKinds := [.data, .data, .data], laidTests := true, laidLooks := .later }
def ShortDropsCardSaid : Prop := Claim7.holds Tryz.pinned (.plain (OpenSpec.ofChange shortDropsSpec)) shortDropsCard

/-- THE TIED CARD OF 'lemmarylaw07.ShortCuts'. -/
def shortCutsCard : Claim7 := { stood := { row := shortCutsRow, standIns := [], harness := (true, "6272067c3d1601d2e21323efe9e6f56ae41cac7b6cc1a39ae17a00038bfa4063"), looks := false }, kinds := [], alts := [], laidByText := true, laidKinds := [.data, .data, .data], laidTests := true, laidLooks := .later }
def ShortCutsCardSaid : Prop := Claim7.holds Tryz.pinned (.plain (OpenSpec.ofChange shortCutsSpec)) shortCutsCard

/-- THE TIED CARD OF 'lemmarylaw07.ShortTimes'. -/
def shortTimesCard : Claim7 := { stood := { row := shortTimesRow, standIns := [], harness := (true, "6272067c3d1601d2e21323efe9e6f56ae41cac7b6cc1a39ae17a00038bfa4063"), looks := false }, kinds := [], alts := [], laidByText := true, laidKinds := [.data, .data, .data], laidTests := true, laidLooks := .later }
def ShortTimesCardSaid : Prop := Claim7.holds Tryz.pinned (.plain (OpenSpec.ofChange shortTimesSpec)) shortTimesCard

/-- THE TIED CARD OF 'lemmarylaw07.ShortCites'. -/
def shortCitesCard : Claim7 := { stood := { row := shortCitesRow, standIns := [], harness := (true, "6272067c3d1601d2e21323efe9e6f56ae41cac7b6cc1a39ae17a00038bfa4063"), looks := false }, kinds := [], alts := [], laidByText := true, laidKinds := [.data, .data, .data], laidTests := true, laidLooks := .later }
def ShortCitesCardSaid : Prop := Claim7.holds Tryz.pinned (.plain (OpenSpec.ofChange shortCitesSpec)) shortCitesCard

/-- THE TIED CARD OF 'lemmarylaw07.ShortSays'. -/
def shortSaysCard : Claim7 := { stood := { row := shortSaysRow, standIns := [], harness := (true, "6272067c3d1601d2e21323efe9e6f56ae41cac7b6cc1a39ae17a00038bfa4063"), looks := false }, kinds := [], alts := [], laidByText := true, laidKinds := [.data, .data, .data], laidTests := true, laidLooks := .later }
def ShortSaysCardSaid : Prop := Claim7.holds Tryz.pinned (.plain (OpenSpec.ofChange shortSaysSpec)) shortSaysCard

/-- THE SECOND FORM's CARD OF 'lemmarylaw07.ShortTrims'. -/
def shortTrimsUptoCard : Claim7 := { stood := { row := shortTrimsUptoRow, standIns := [], harness := (true, "6272067c3d1601d2e21323efe9e6f56ae41cac7b6cc1a39ae17a00038bfa4063"), looks := false }, kinds := [], alts := [], laidByText := true, laidKinds := [.data, .data, .data], laidTests := true, laidLooks := .later }
def ShortTrimsUptoCardSaid : Prop := Claim7.holds Tryz.pinned (.plain (OpenSpec.upto shortTrimsSpec)) shortTrimsUptoCard

/-- THE SECOND FORM's CARD OF 'lemmarylaw07.ShortLemmas'. -/
def shortLemmasUptoCard : Claim7 := { stood := { row := shortLemmasUptoRow, standIns := [], harness := (true, "6272067c3d1601d2e21323efe9e6f56ae41cac7b6cc1a39ae17a00038bfa4063"), looks := false }, kinds := [], alts := [], laidByText := true, laidKinds := [.data, .data, .data], laidTests := true, laidLooks := .later }
def ShortLemmasUptoCardSaid : Prop := Claim7.holds Tryz.pinned (.plain (OpenSpec.upto shortLemmasSpec)) shortLemmasUptoCard

/-- THE SECOND FORM's CARD OF 'lemmarylaw07.ShortDrops'. -/
def shortDropsUptoCard : Claim7 := { stood := { row := shortDropsUptoRow, standIns := [], harness := (true, "6272067c3d1601d2e21323efe9e6f56ae41cac7b6cc1a39ae17a00038bfa4063"), looks := false }, kinds := [], alts := [], laidByText := true, laidKinds := [.data, .data, .data], laidTests := true, laidLooks := .later }
def ShortDropsUptoCardSaid : Prop := Claim7.holds Tryz.pinned (.plain (OpenSpec.upto shortDropsSpec)) shortDropsUptoCard

/-- THE SECOND FORM's CARD OF 'lemmarylaw07.ShortCuts'. -/
def shortCutsUptoCard : Claim7 := { stood := { row := shortCutsUptoRow, standIns := [], harness := (true, "6272067c3d1601d2e21323efe9e6f56ae41cac7b6cc1a39ae17a00038bfa4063"), looks := false }, kinds := [], alts := [], laidByText := true, laidKinds := [.data, .data, .data], laidTests := true, laidLooks := .later }
def ShortCutsUptoCardSaid : Prop := Claim7.holds Tryz.pinned (.plain (OpenSpec.upto shortCutsSpec)) shortCutsUptoCard

/-- THE SECOND FORM's CARD OF 'lemmarylaw07.ShortTimes'. -/
def shortTimesUptoCard : Claim7 := { stood := { row := shortTimesUptoRow, standIns := [], harness := (true, "6272067c3d1601d2e21323efe9e6f56ae41cac7b6cc1a39ae17a00038bfa4063"), looks := false }, kinds := [], alts := [], laidByText := true, laidKinds := [.data, .data, .data], laidTests := true, laidLooks := .later }
def ShortTimesUptoCardSaid : Prop := Claim7.holds Tryz.pinned (.plain (OpenSpec.upto shortTimesSpec)) shortTimesUptoCard

/-- THE SECOND FORM's CARD OF 'lemmarylaw07.ShortCites'. -/
def shortCitesUptoCard : Claim7 := { stood := { row := shortCitesUptoRow, standIns := [], harness := (true, "6272067c3d1601d2e21323efe9e6f56ae41cac7b6cc1a39ae17a00038bfa4063"), looks := false }, kinds := [], alts := [], laidByText := true, laidKinds := [.data, .data, .data], laidTests := true, laidLooks := .later }
def ShortCitesUptoCardSaid : Prop := Claim7.holds Tryz.pinned (.plain (OpenSpec.upto shortCitesSpec)) shortCitesUptoCard

/-- THE SECOND FORM's CARD OF 'lemmarylaw07.ShortSays'. -/
def shortSaysUptoCard : Claim7 := { stood := { row := shortSaysUptoRow, standIns := [], harness := (true, "6272067c3d1601d2e21323efe9e6f56ae41cac7b6cc1a39ae17a00038bfa4063"), looks := false }, kinds := [], alts := [], laidByText := true, laidKinds := [.data, .data, .data], laidTests := true, laidLooks := .later }
def ShortSaysUptoCardSaid : Prop := Claim7.holds Tryz.pinned (.plain (OpenSpec.upto shortSaysSpec)) shortSaysUptoCard
end Rows
end Go.Proofs.YtmpjaakkjhmpmaaGreatDoor

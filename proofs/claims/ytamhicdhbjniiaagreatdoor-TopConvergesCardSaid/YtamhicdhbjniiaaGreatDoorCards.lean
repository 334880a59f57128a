/-
  DERIVED. GIVEN WITH THE SEED: THE CARDS: each row of YtamhicdhbjniiaaGreatDoorRows.lean that lists a variable, with what it lists TIED to the program's text (the seventh form; the later family's looks); each row that meets fmt, with fmt's text TOLD by the authors' own Lean function (tested against real Go, not proved from fmt's source: count such statements apart). THE CARD IS WHAT COUNTS. Prove the row's statement (the work); the ties are given (YtamhicdhbjniiaaGreatDoorTie.lean); close each card by the builder's one call (the guide's Derived/Test/ToyasCard.lean, 'card_holds'). Laid BY PROGRAM, IN A SANDBOX (cutbox-door.mjs). By AI agents, Wed Nov 11 2026. No macro, syntax, notation, axiom, sorry.
-/
import Derived.Test.YtamhicdhbjniiaaGreatDoorRows
import GoSem.ClaimSeven
namespace Go.Proofs.YtamhicdhbjniiaaGreatDoor
namespace Rows

/-- THE TIED CARD OF 'chronobatetop.TopConverges'. -/
def topConvergesCard : Claim7 := { stood := { row := topConvergesRow, standIns := [], harness := (true, "ffbfaa8faeb3b6336c9dab50d36116b16220f1942b0e079184279ffa015874c8"), looks := true }, kinds := [], alts := [], laidByText := true, laidKinds := [.data, .data, .data, .data, .sentinel, .sentinel, .widerDeep, .listed, .data, .pinned], laidTests := true, laidLooks := .later }
def TopConvergesCardSaid : Prop := Claim7.holds Tryz.pinned (.plain (OpenSpec.ofChange topConvergesSpec)) topConvergesCard

/-- THE TIED CARD OF 'chronobatetop.TopOccurs'. -/
def topOccursCard : Claim7 := { stood := { row := topOccursRow, standIns := [], harness := (true, "ffbfaa8faeb3b6336c9dab50d36116b16220f1942b0e079184279ffa015874c8"), looks := true }, kinds := [], alts := [], laidByText := true, laidKinds := [.data, .data, .data, .data, .sentinel, .sentinel, .widerDeep, .listed, .data, .pinned], laidTests := true, laidLooks := .later }
def TopOccursCardSaid : Prop := Claim7.holds Tryz.pinned (.plain (OpenSpec.ofChange topOccursSpec)) topOccursCard

/-- THE TIED CARD OF 'chronobatetop.TopForgeries'. -/
def topForgeriesCard : Claim7 := { stood := { row := topForgeriesRow, standIns := [], harness := (true, "ffbfaa8faeb3b6336c9dab50d36116b16220f1942b0e079184279ffa015874c8"), looks := true }, kinds := [], alts := [], laidByText := true, laidKinds := [.data, .data, .data, .data, .sentinel, .sentinel, .widerDeep, .listed, .data, .pinned], laidTests := true, laidLooks := .later }
def TopForgeriesCardSaid : Prop := Claim7.holds Tryz.pinned (.plain (OpenSpec.ofChange topForgeriesSpec)) topForgeriesCard

/-- THE TIED CARD OF 'chronobatetop.TopSends'. -/
def topSendsCard : Claim7 := { stood := { row := topSendsRow, standIns := [], harness := (true, "ffbfaa8faeb3b6336c9dab50d36116b16220f1942b0e079184279ffa015874c8"), looks := true }, kinds := [], alts := [], laidByText := true, laidKinds := [.data, .data, .data, .data, .sentinel, .sentinel, .widerDeep, .listed, .data, .pinned], laidTests := true, laidLooks := .later }
def TopSendsCardSaid : Prop := Claim7.holds Tryz.pinned (.plain (OpenSpec.ofChange topSendsSpec)) topSendsCard

/-- THE TIED CARD OF 'chronobatetop.TopBackoff'. -/
def topBackoffCard : Claim7 := { stood := { row := topBackoffRow, standIns := [], harness := (true, "ffbfaa8faeb3b6336c9dab50d36116b16220f1942b0e079184279ffa015874c8"), looks := true }, kinds := [], alts := [], laidByText := true, laidKinds := [.data, .data, .data, .data, .sentinel, .sentinel, .widerDeep, .listed, .data, .pinned], laidTests := true, laidLooks := .later }
def TopBackoffCardSaid : Prop := Claim7.holds Tryz.pinned (.plain (OpenSpec.ofChange topBackoffSpec)) topBackoffCard

/-- THE SECOND FORM's CARD OF 'chronobatetop.TopConverges'. -/
def topConvergesUptoCard : Claim7 := { stood := { row := topConvergesUptoRow, standIns := [], harness := (true, "ffbfaa8faeb3b6336c9dab50d36116b16220f1942b0e079184279ffa015874c8"), looks := true }, kinds := [], alts := [], laidByText := true, laidKinds := [.data, .data, .data, .data, .sentinel, .sentinel, .widerDeep, .listed, .data, .pinned], laidTests := true, laidLooks := .later }
def TopConvergesUptoCardSaid : Prop := Claim7.holds Tryz.pinned (.plain (OpenSpec.upto topConvergesSpec)) topConvergesUptoCard

/-- THE SECOND FORM's CARD OF 'chronobatetop.TopOccurs'. -/
def topOccursUptoCard : Claim7 := { stood := { row := topOccursUptoRow, standIns := [], harness := (true, "ffbfaa8faeb3b6336c9dab50d36116b16220f1942b0e079184279ffa015874c8"), looks := true }, kinds := [], alts := [], laidByText := true, laidKinds := [.data, .data, .data, .data, .sentinel, .sentinel, .widerDeep, .listed, .data, .pinned], laidTests := true, laidLooks := .later }
def TopOccursUptoCardSaid : Prop := Claim7.holds Tryz.pinned (.plain (OpenSpec.upto topOccursSpec)) topOccursUptoCard

/-- THE SECOND FORM's CARD OF 'chronobatetop.TopForgeries'. -/
def topForgeriesUptoCard : Claim7 := { stood := { row := topForgeriesUptoRow, standIns := [], harness := (true, "ffbfaa8faeb3b6336c9dab50d36116b16220f1942b0e079184279ffa015874c8"), looks := true }, kinds := [], alts := [], laidByText := true, laidKinds := [.data, .data, .data, .data, .sentinel, .sentinel, .widerDeep, .listed, .data, .pinned], laidTests := true, laidLooks := .later }
def TopForgeriesUptoCardSaid : Prop := Claim7.holds Tryz.pinned (.plain (OpenSpec.upto topForgeriesSpec)) topForgeriesUptoCard

/-- THE SECOND FORM's CARD OF 'chronobatetop.TopSends'. -/
def topSendsUptoCard : Claim7 := { stood := { row := topSendsUptoRow, standIns := [], harness := (true, "ffbfaa8faeb3b6336c9dab50d36116b16220f1942b0e079184279ffa015874c8"), looks := true }, kinds := [], alts := [], laidByText := true, laidKinds := [.data, .data, .data, .data, .sentinel, .sentinel, .widerDeep, .listed, .data, .pinned], laidTests := true, laidLooks := .later }
def TopSendsUptoCardSaid : Prop := Claim7.holds Tryz.pinned (.plain (OpenSpec.upto topSendsSpec)) topSendsUptoCard

/-- THE SECOND FORM's CARD OF 'chronobatetop.TopBackoff'. -/
def topBackoffUptoCard : Claim7 := { stood := { row := topBackoffUptoRow, standIns := [], harness := (true, "ffbfaa8faeb3b6336c9dab50d36116b16220f1942b0e079184279ffa015874c8"), looks := true }, kinds := [], alts := [], laidByText := true, laidKinds := [.data, .data, .data, .data, .sentinel, .sentinel, .widerDeep, .listed, .data, .pinned], laidTests := true, laidLooks := .later }
def TopBackoffUptoCardSaid : Prop := Claim7.holds Tryz.pinned (.plain (OpenSpec.upto topBackoffSpec)) topBackoffUptoCard
end Rows
end Go.Proofs.YtamhicdhbjniiaaGreatDoor

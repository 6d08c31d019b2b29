/-
  DERIVED. GIVEN WITH THE SEED: THE CARDS: each row of YtkmcbpkciakmeaaGreatDoorRows.lean that lists a variable, with what it lists TIED to the program's text (the seventh form; the later family's looks); each row that meets fmt, with fmt's text TOLD by the authors' own Lean function (tested against real Go, not proved from fmt's source: count such statements apart). THE CARD IS WHAT COUNTS. Prove the row's statement (the work); the ties are given (YtkmcbpkciakmeaaGreatDoorTie.lean); close each card by the builder's one call (the guide's Derived/Test/ToyasCard.lean, 'card_holds'). Laid BY PROGRAM, IN A SANDBOX (cutbox-door.mjs). By AI agents, Wed Nov 11 2026. No macro, syntax, notation, axiom, sorry.
-/
import Derived.Test.YtkmcbpkciakmeaaGreatDoorRows
import GoSem.ClaimSeven
namespace Go.Proofs.YtkmcbpkciakmeaaGreatDoor
namespace Rows

/-- THE TIED CARD OF 'wainloadlaw17.TarfmtWrites'. -/
def tarfmtWritesCard : Claim7 := { stood := { row := tarfmtWritesRow, standIns := [], harness := (true, "bc72a3238eb4192ed5a8c4be5ed78807ed46397ed354c90fbc164090a2495525"), looks := false }, kinds := [], alts := [], laidByText := true, laidKinds := [.data, .data, .data, .data, .pinned], laidTests := true, laidLooks := .later }
def TarfmtWritesCardSaid : Prop := Claim7.holds Tryz.pinned (.plain (OpenSpec.ofChange tarfmtWritesSpec)) tarfmtWritesCard

/-- THE TIED CARD OF 'wainloadlaw17.TarfmtBack'. -/
def tarfmtBackCard : Claim7 := { stood := { row := tarfmtBackRow, standIns := [], harness := (true, "bc72a3238eb4192ed5a8c4be5ed78807ed46397ed354c90fbc164090a2495525"), looks := false }, kinds := [], alts := [], laidByText := true, laidKinds := [.data, .data, .data, .data, .pinned], laidTests := true, laidLooks := .later }
def TarfmtBackCardSaid : Prop := Claim7.holds Tryz.pinned (.plain (OpenSpec.ofChange tarfmtBackSpec)) tarfmtBackCard

/-- THE TIED CARD OF 'wainloadlaw17.TarfmtRecords'. -/
def tarfmtRecordsCard : Claim7 := { stood := { row := tarfmtRecordsRow, standIns := [], harness := (true, "bc72a3238eb4192ed5a8c4be5ed78807ed46397ed354c90fbc164090a2495525"), looks := false }, kinds := [], alts := [], laidByText := true, laidKinds := [.data, .data, .data, .data, .pinned], laidTests := true, laidLooks := .later }
def TarfmtRecordsCardSaid : Prop := Claim7.holds Tryz.pinned (.plain (OpenSpec.ofChange tarfmtRecordsSpec)) tarfmtRecordsCard

/-- THE TIED CARD OF 'wainloadlaw17.TarfmtParses'. -/
def tarfmtParsesCard : Claim7 := { stood := { row := tarfmtParsesRow, standIns := [], harness := (true, "bc72a3238eb4192ed5a8c4be5ed78807ed46397ed354c90fbc164090a2495525"), looks := false }, kinds := [], alts := [], laidByText := true, laidKinds := [.data, .data, .data, .data, .pinned], laidTests := true, laidLooks := .later }
def TarfmtParsesCardSaid : Prop := Claim7.holds Tryz.pinned (.plain (OpenSpec.ofChange tarfmtParsesSpec)) tarfmtParsesCard

/-- THE TIED CARD OF 'wainloadlaw17.TarfmtKeys'. -/
def tarfmtKeysCard : Claim7 := { stood := { row := tarfmtKeysRow, standIns := [], harness := (true, "bc72a3238eb4192ed5a8c4be5ed78807ed46397ed354c90fbc164090a2495525"), looks := false }, kinds := [], alts := [], laidByText := true, laidKinds := [.data, .data, .data, .data, .pinned], laidTests := true, laidLooks := .later }
def TarfmtKeysCardSaid : Prop := Claim7.holds Tryz.pinned (.plain (OpenSpec.ofChange tarfmtKeysSpec)) tarfmtKeysCard

/-- THE TIED CARD OF 'wainloadlaw17.TarfmtJoins'. -/
def tarfmtJoinsCard : Claim7 := { stood := { row := tarfmtJoinsRow, standIns := [], harness := (true, "bc72a3238eb4192ed5a8c4be5ed78807ed46397ed354c90fbc164090a2495525"), looks := false }, kinds := [], alts := [], laidByText := true, laidKinds := [.data, .data, .data, .data, .pinned], laidTests := true, laidLooks := .later }
def TarfmtJoinsCardSaid : Prop := Claim7.holds Tryz.pinned (.plain (OpenSpec.ofChange tarfmtJoinsSpec)) tarfmtJoinsCard

/-- THE SECOND FORM's CARD OF 'wainloadlaw17.TarfmtWrites'. -/
def tarfmtWritesUptoCard : Claim7 := { stood := { row := tarfmtWritesUptoRow, standIns := [], harness := (true, "bc72a3238eb4192ed5a8c4be5ed78807ed46397ed354c90fbc164090a2495525"), looks := false }, kinds := [], alts := [], laidByText := true, laidKinds := [.data, .data, .data, .data, .pinned], laidTests := true, laidLooks := .later }
def TarfmtWritesUptoCardSaid : Prop := Claim7.holds Tryz.pinned (.plain (OpenSpec.upto tarfmtWritesSpec)) tarfmtWritesUptoCard

/-- THE SECOND FORM's CARD OF 'wainloadlaw17.TarfmtBack'. -/
def tarfmtBackUptoCard : Claim7 := { stood := { row := tarfmtBackUptoRow, standIns := [], harness := (true, "bc72a3238eb4192ed5a8c4be5ed78807ed46397ed354c90fbc164090a2495525"), looks := false }, kinds := [], alts := [], laidByText := true, laidKinds := [.data, .data, .data, .data, .pinned], laidTests := true, laidLooks := .later }
def TarfmtBackUptoCardSaid : Prop := Claim7.holds Tryz.pinned (.plain (OpenSpec.upto tarfmtBackSpec)) tarfmtBackUptoCard

/-- THE SECOND FORM's CARD OF 'wainloadlaw17.TarfmtRecords'. -/
def tarfmtRecordsUptoCard : Claim7 := { stood := { row := tarfmtRecordsUptoRow, standIns := [], harness := (true, "bc72a3238eb4192ed5a8c4be5ed78807ed46397ed354c90fbc164090a2495525"), looks := false }, kinds := [], alts := [], laidByText := true, laidKinds := [.data, .data, .data, .data, .pinned], laidTests := true, laidLooks := .later }
def TarfmtRecordsUptoCardSaid : Prop := Claim7.holds Tryz.pinned (.plain (OpenSpec.upto tarfmtRecordsSpec)) tarfmtRecordsUptoCard

/-- THE SECOND FORM's CARD OF 'wainloadlaw17.TarfmtParses'. -/
def tarfmtParsesUptoCard : Claim7 := { stood := { row := tarfmtParsesUptoRow, standIns := [], harness := (true, "bc72a3238eb4192ed5a8c4be5ed78807ed46397ed354c90fbc164090a2495525"), looks := false }, kinds := [], alts := [], laidByText := true, laidKinds := [.data, .data, .data, .data, .pinned], laidTests := true, laidLooks := .later }
def TarfmtParsesUptoCardSaid : Prop := Claim7.holds Tryz.pinned (.plain (OpenSpec.upto tarfmtParsesSpec)) tarfmtParsesUptoCard

/-- THE SECOND FORM's CARD OF 'wainloadlaw17.TarfmtKeys'. -/
def tarfmtKeysUptoCard : Claim7 := { stood := { row := tarfmtKeysUptoRow, standIns := [], harness := (true, "bc72a3238eb4192ed5a8c4be5ed78807ed46397ed354c90fbc164090a2495525"), looks := false }, kinds := [], alts := [], laidByText := true, laidKinds := [.data, .data, .data, .data, .pinned], laidTests := true, laidLooks := .later }
def TarfmtKeysUptoCardSaid : Prop := Claim7.holds Tryz.pinned (.plain (OpenSpec.upto tarfmtKeysSpec)) tarfmtKeysUptoCard

/-- THE SECOND FORM's CARD OF 'wainloadlaw17.TarfmtJoins'. -/
def tarfmtJoinsUptoCard : Claim7 := { stood := { row := tarfmtJoinsUptoRow, standIns := [], harness := (true, "bc72a3238eb4192ed5a8c4be5ed78807ed46397ed354c90fbc164090a2495525"), looks := false }, kinds := [], alts := [], laidByText := true, laidKinds := [.data, .data, .data, .data, .pinned], laidTests := true, laidLooks := .later }
def TarfmtJoinsUptoCardSaid : Prop := Claim7.holds Tryz.pinned (.plain (OpenSpec.upto tarfmtJoinsSpec)) tarfmtJoinsUptoCard
end Rows
end Go.Proofs.YtkmcbpkciakmeaaGreatDoor

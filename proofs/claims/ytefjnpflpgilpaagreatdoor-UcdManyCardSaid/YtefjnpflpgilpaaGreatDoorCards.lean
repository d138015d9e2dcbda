/-
  DERIVED. GIVEN WITH THE SEED: THE CARDS: each row of YtefjnpflpgilpaaGreatDoorRows.lean that lists a variable, with what it lists TIED to the program's text (the seventh form; the later family's looks); each row that meets fmt, with fmt's text TOLD by the authors' own Lean function (tested against real Go, not proved from fmt's source: count such statements apart). THE CARD IS WHAT COUNTS. Prove the row's statement (the work); the ties are given (YtefjnpflpgilpaaGreatDoorTie.lean); close each card by the builder's one call (the guide's Derived/Test/ToyasCard.lean, 'card_holds'). Laid BY PROGRAM, IN A SANDBOX (cutbox-door.mjs). By AI agents, Wed Nov 11 2026. No macro, syntax, notation, axiom, sorry.
-/
import Derived.Test.YtefjnpflpgilpaaGreatDoorRows
import GoSem.ClaimSeven
namespace Go.Proofs.YtefjnpflpgilpaaGreatDoor
namespace Rows

/-- THE TIED CARD OF 'frisketlaw02.UcdWrites'. -/
def ucdWritesCard : Claim7 := { stood := { row := ucdWritesRow, standIns := [], harness := (true, "027dc4ea1f9b9e885d55512166e40b6ba24a2b36b959e6b4ad7866a1e0eb8edf"), looks := true }, kinds := [], alts := [], laidByText := true, laidKinds := [.data, .data, .data, .data, .sentinel, .sentinel, .pinned, .pinned], laidTests := true, laidLooks := .later }
def UcdWritesCardSaid : Prop := Claim7.holds Tryz.pinned (.plain (OpenSpec.ofChange ucdWritesSpec)) ucdWritesCard

/-- THE TIED CARD OF 'frisketlaw02.UcdBack'. -/
def ucdBackCard : Claim7 := { stood := { row := ucdBackRow, standIns := [], harness := (true, "027dc4ea1f9b9e885d55512166e40b6ba24a2b36b959e6b4ad7866a1e0eb8edf"), looks := true }, kinds := [], alts := [], laidByText := true, laidKinds := [.data, .data, .data, .data, .sentinel, .sentinel, .pinned, .pinned], laidTests := true, laidLooks := .later }
def UcdBackCardSaid : Prop := Claim7.holds Tryz.pinned (.plain (OpenSpec.ofChange ucdBackSpec)) ucdBackCard

/-- THE TIED CARD OF 'frisketlaw02.UcdNoise'. -/
def ucdNoiseCard : Claim7 := { stood := { row := ucdNoiseRow, standIns := [], harness := (true, "027dc4ea1f9b9e885d55512166e40b6ba24a2b36b959e6b4ad7866a1e0eb8edf"), looks := true }, kinds := [], alts := [], laidByText := true, laidKinds := [.data, .data, .data, .data, .sentinel, .sentinel, .pinned, .pinned], laidTests := true, laidLooks := .later }
def UcdNoiseCardSaid : Prop := Claim7.holds Tryz.pinned (.plain (OpenSpec.ofChange ucdNoiseSpec)) ucdNoiseCard

/-- THE TIED CARD OF 'frisketlaw02.UcdMany'. -/
def ucdManyCard : Claim7 := { stood := { row := ucdManyRow, standIns := [], harness := (true, "027dc4ea1f9b9e885d55512166e40b6ba24a2b36b959e6b4ad7866a1e0eb8edf"), looks := true }, kinds := [], alts := [], laidByText := true, laidKinds := [.data, .data, .data, .data, .sentinel, .sentinel, .pinned, .pinned], laidTests := true, laidLooks := .later }
def UcdManyCardSaid : Prop := Claim7.holds Tryz.pinned (.plain (OpenSpec.ofChange ucdManySpec)) ucdManyCard

/-- THE SECOND FORM's CARD OF 'frisketlaw02.UcdWrites'. -/
def ucdWritesUptoCard : Claim7 := { stood := { row := ucdWritesUptoRow, standIns := [], harness := (true, "027dc4ea1f9b9e885d55512166e40b6ba24a2b36b959e6b4ad7866a1e0eb8edf"), looks := true }, kinds := [], alts := [], laidByText := true, laidKinds := [.data, .data, .data, .data, .sentinel, .sentinel, .pinned, .pinned], laidTests := true, laidLooks := .later }
def UcdWritesUptoCardSaid : Prop := Claim7.holds Tryz.pinned (.plain (OpenSpec.upto ucdWritesSpec)) ucdWritesUptoCard

/-- THE SECOND FORM's CARD OF 'frisketlaw02.UcdBack'. -/
def ucdBackUptoCard : Claim7 := { stood := { row := ucdBackUptoRow, standIns := [], harness := (true, "027dc4ea1f9b9e885d55512166e40b6ba24a2b36b959e6b4ad7866a1e0eb8edf"), looks := true }, kinds := [], alts := [], laidByText := true, laidKinds := [.data, .data, .data, .data, .sentinel, .sentinel, .pinned, .pinned], laidTests := true, laidLooks := .later }
def UcdBackUptoCardSaid : Prop := Claim7.holds Tryz.pinned (.plain (OpenSpec.upto ucdBackSpec)) ucdBackUptoCard

/-- THE SECOND FORM's CARD OF 'frisketlaw02.UcdNoise'. -/
def ucdNoiseUptoCard : Claim7 := { stood := { row := ucdNoiseUptoRow, standIns := [], harness := (true, "027dc4ea1f9b9e885d55512166e40b6ba24a2b36b959e6b4ad7866a1e0eb8edf"), looks := true }, kinds := [], alts := [], laidByText := true, laidKinds := [.data, .data, .data, .data, .sentinel, .sentinel, .pinned, .pinned], laidTests := true, laidLooks := .later }
def UcdNoiseUptoCardSaid : Prop := Claim7.holds Tryz.pinned (.plain (OpenSpec.upto ucdNoiseSpec)) ucdNoiseUptoCard

/-- THE SECOND FORM's CARD OF 'frisketlaw02.UcdMany'. -/
def ucdManyUptoCard : Claim7 := { stood := { row := ucdManyUptoRow, standIns := [], harness := (true, "027dc4ea1f9b9e885d55512166e40b6ba24a2b36b959e6b4ad7866a1e0eb8edf"), looks := true }, kinds := [], alts := [], laidByText := true, laidKinds := [.data, .data, .data, .data, .sentinel, .sentinel, .pinned, .pinned], laidTests := true, laidLooks := .later }
def UcdManyUptoCardSaid : Prop := Claim7.holds Tryz.pinned (.plain (OpenSpec.upto ucdManySpec)) ucdManyUptoCard
end Rows
end Go.Proofs.YtefjnpflpgilpaaGreatDoor

/-
  DERIVED. GIVEN WITH THE SEED: THE CARDS: each row of YtlnaepemkeodoaaDoorRows.lean that lists a variable, with what it lists TIED to the program's text (the seventh form; the later family's looks); each row that meets fmt, with fmt's text TOLD by the authors' own Lean function (tested against real Go, not proved from fmt's source: count such statements apart). THE CARD IS WHAT COUNTS. Prove the row's statement (the work); the ties are given (YtlnaepemkeodoaaDoorTie.lean); close each card by the builder's one call (the guide's Derived/Test/ToyasCard.lean, 'card_holds'). Laid BY PROGRAM, IN A SANDBOX (cutbox-door.mjs). By AI agents, Wed Nov 11 2026. No macro, syntax, notation, axiom, sorry.
-/
import Derived.Test.YtlnaepemkeodoaaDoorRows
import GoSem.ClaimSeven
namespace Go.Proofs.YtlnaepemkeodoaaDoor
namespace Rows

/-- THE TIED CARD OF 'accidencelaw24.BaseBack'. -/
def baseBackCard : Claim7 := { stood := { row := baseBackRow, standIns := [], harness := (true, "feb657d31a2453790cc56402c282c4d2ec375a09fbd295da470671661fcd9ad5"), looks := false }, kinds := [], alts := [], laidByText := true, laidKinds := [.data, .pinned], laidTests := true, laidLooks := .later }
def BaseBackCardSaid : Prop := Claim7.holds Tryd.pinned (.plain (OpenSpec.ofChange baseBackSpec)) baseBackCard

/-- THE TIED CARD OF 'accidencelaw24.BaseStars'. -/
def baseStarsCard : Claim7 := { stood := { row := baseStarsRow, standIns := [], harness := (true, "feb657d31a2453790cc56402c282c4d2ec375a09fbd295da470671661fcd9ad5"), looks := false }, kinds := [], alts := [], laidByText := true, laidKinds := [.data, .pinned], laidTests := true, laidLooks := .later }
def BaseStarsCardSaid : Prop := Claim7.holds Tryd.pinned (.plain (OpenSpec.ofChange baseStarsSpec)) baseStarsCard

/-- THE SECOND FORM's CARD OF 'accidencelaw24.BaseBack'. -/
def baseBackUptoCard : Claim7 := { stood := { row := baseBackUptoRow, standIns := [], harness := (true, "feb657d31a2453790cc56402c282c4d2ec375a09fbd295da470671661fcd9ad5"), looks := false }, kinds := [], alts := [], laidByText := true, laidKinds := [.data, .pinned], laidTests := true, laidLooks := .later }
def BaseBackUptoCardSaid : Prop := Claim7.holds Tryd.pinned (.plain (OpenSpec.upto baseBackSpec)) baseBackUptoCard

/-- THE SECOND FORM's CARD OF 'accidencelaw24.BaseStars'. -/
def baseStarsUptoCard : Claim7 := { stood := { row := baseStarsUptoRow, standIns := [], harness := (true, "feb657d31a2453790cc56402c282c4d2ec375a09fbd295da470671661fcd9ad5"), looks := false }, kinds := [], alts := [], laidByText := true, laidKinds := [.data, .pinned], laidTests := true, laidLooks := .later }
def BaseStarsUptoCardSaid : Prop := Claim7.holds Tryd.pinned (.plain (OpenSpec.upto baseStarsSpec)) baseStarsUptoCard
end Rows
end Go.Proofs.YtlnaepemkeodoaaDoor

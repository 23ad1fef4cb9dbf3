/-
  DERIVED. GIVEN WITH THE SEED: THE CARDS: each row of YtbhpofplencjgaaDoorRows.lean that lists a variable, with what it lists TIED to the program's text (the seventh form; the later family's looks); each row that meets fmt, with fmt's text TOLD by the authors' own Lean function (tested against real Go, not proved from fmt's source: count such statements apart). THE CARD IS WHAT COUNTS. Prove the row's statement (the work); the ties are given (YtbhpofplencjgaaDoorTie.lean); close each card by the builder's one call (the guide's Derived/Test/ToyasCard.lean, 'card_holds'). Laid BY PROGRAM, IN A SANDBOX (cutbox-door.mjs). By AI agents, Wed Nov 11 2026. No macro, syntax, notation, axiom, sorry.
-/
import Derived.Test.YtbhpofplencjgaaDoorRows
import GoSem.ClaimSeven
namespace Go.Proofs.YtbhpofplencjgaaDoor
namespace Rows

/-- THE TIED CARD OF 'boomeranglaw15.PropsArrays'. -/
def propsArraysCard : Claim7 := { stood := { row := propsArraysRow, standIns := [], harness := (true, "220fbef861497d89630dc96a488404d59291d4bb4ef7722968f926bd836d5b29"), looks := false }, kinds := [], alts := [], laidByText := true, laidKinds := [.data, .data, .data], laidTests := true, laidLooks := .later }
def PropsArraysCardSaid : Prop := Claim7.holds Tryd.pinned (.plain (OpenSpec.ofChange propsArraysSpec)) propsArraysCard

/-- THE TIED CARD OF 'boomeranglaw15.PropsMade'. -/
def propsMadeCard : Claim7 := { stood := { row := propsMadeRow, standIns := [], harness := (true, "220fbef861497d89630dc96a488404d59291d4bb4ef7722968f926bd836d5b29"), looks := false }, kinds := [], alts := [], laidByText := true, laidKinds := [.data, .data, .data], laidTests := true, laidLooks := .later }
def PropsMadeCardSaid : Prop := Claim7.holds Tryd.pinned (.plain (OpenSpec.ofChange propsMadeSpec)) propsMadeCard

/-- THE SECOND FORM's CARD OF 'boomeranglaw15.PropsArrays'. -/
def propsArraysUptoCard : Claim7 := { stood := { row := propsArraysUptoRow, standIns := [], harness := (true, "220fbef861497d89630dc96a488404d59291d4bb4ef7722968f926bd836d5b29"), looks := false }, kinds := [], alts := [], laidByText := true, laidKinds := [.data, .data, .data], laidTests := true, laidLooks := .later }
def PropsArraysUptoCardSaid : Prop := Claim7.holds Tryd.pinned (.plain (OpenSpec.upto propsArraysSpec)) propsArraysUptoCard

/-- THE SECOND FORM's CARD OF 'boomeranglaw15.PropsMade'. -/
def propsMadeUptoCard : Claim7 := { stood := { row := propsMadeUptoRow, standIns := [], harness := (true, "220fbef861497d89630dc96a488404d59291d4bb4ef7722968f926bd836d5b29"), looks := false }, kinds := [], alts := [], laidByText := true, laidKinds := [.data, .data, .data], laidTests := true, laidLooks := .later }
def PropsMadeUptoCardSaid : Prop := Claim7.holds Tryd.pinned (.plain (OpenSpec.upto propsMadeSpec)) propsMadeUptoCard
end Rows
end Go.Proofs.YtbhpofplencjgaaDoor

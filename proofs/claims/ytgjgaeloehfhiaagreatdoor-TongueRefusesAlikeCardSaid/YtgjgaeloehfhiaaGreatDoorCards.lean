/-
  DERIVED. GIVEN WITH THE SEED: THE CARDS: each row of YtgjgaeloehfhiaaGreatDoorRows.lean that lists a variable, with what it lists TIED to the program's text (the seventh form; the later family's looks); each row that meets fmt, with fmt's text TOLD by the authors' own Lean function (tested against real Go, not proved from fmt's source: count such statements apart). THE CARD IS WHAT COUNTS. Prove the row's statement (the work); the ties are given (YtgjgaeloehfhiaaGreatDoorTie.lean); close each card by the builder's one call (the guide's Derived/Test/ToyasCard.lean, 'card_holds'). Laid BY PROGRAM, IN A SANDBOX (cutbox-door.mjs). By AI agents, Wed Nov 11 2026. No macro, syntax, notation, axiom, sorry.
-/
import Derived.Test.YtgjgaeloehfhiaaGreatDoorRows
import GoSem.ClaimSeven
namespace Go.Proofs.YtgjgaeloehfhiaaGreatDoor
namespace Rows

/-- THE TIED CARD OF 'amberlaw23.TongueRefusesAlike'. -/
def tongueRefusesAlikeCard : Claim7 := { stood := { row := tongueRefusesAlikeRow, standIns := [], harness := (true, "58366c1a671e48e093cd139bc8a918d135524fc21aa543a1d5579afe39a44dca"), looks := true }, kinds := [], alts := [], laidByText := true, laidKinds := [.data, .data, .data, .data, .sentinel, .sentinel, .data, .mapped, .data, .data, .data, .data, .pinned, .pinned], laidTests := true, laidLooks := .later }
def TongueRefusesAlikeCardSaid : Prop := Claim7.holds Tryz.pinned (.plain (OpenSpec.ofChange tongueRefusesAlikeSpec)) tongueRefusesAlikeCard

/-- THE SECOND FORM's CARD OF 'amberlaw23.TongueRefusesAlike'. -/
def tongueRefusesAlikeUptoCard : Claim7 := { stood := { row := tongueRefusesAlikeUptoRow, standIns := [], harness := (true, "58366c1a671e48e093cd139bc8a918d135524fc21aa543a1d5579afe39a44dca"), looks := true }, kinds := [], alts := [], laidByText := true, laidKinds := [.data, .data, .data, .data, .sentinel, .sentinel, .data, .mapped, .data, .data, .data, .data, .pinned, .pinned], laidTests := true, laidLooks := .later }
def TongueRefusesAlikeUptoCardSaid : Prop := Claim7.holds Tryz.pinned (.plain (OpenSpec.upto tongueRefusesAlikeSpec)) tongueRefusesAlikeUptoCard
end Rows
end Go.Proofs.YtgjgaeloehfhiaaGreatDoor

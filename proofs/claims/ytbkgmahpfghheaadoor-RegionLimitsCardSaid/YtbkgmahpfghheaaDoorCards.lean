/-
  DERIVED. GIVEN WITH THE SEED: THE CARDS: each row of YtbkgmahpfghheaaDoorRows.lean that lists a variable, with what it lists TIED to the program's text (the seventh form; the later family's looks); each row that meets fmt, with fmt's text TOLD by the authors' own Lean function (tested against real Go, not proved from fmt's source: count such statements apart). THE CARD IS WHAT COUNTS. Prove the row's statement (the work); the ties are given (YtbkgmahpfghheaaDoorTie.lean); close each card by the builder's one call (the guide's Derived/Test/ToyasCard.lean, 'card_holds'). Laid BY PROGRAM, IN A SANDBOX (cutbox-door.mjs). By AI agents, Wed Nov 11 2026. No macro, syntax, notation, axiom, sorry.
-/
import Derived.Test.YtbkgmahpfghheaaDoorRows
import GoSem.ClaimSeven
namespace Go.Proofs.YtbkgmahpfghheaaDoor
namespace Rows

/-- THE TIED CARD OF 'partsynclaw04.RegionLimits'. -/
def regionLimitsCard : Claim7 := { stood := { row := regionLimitsRow, standIns := [], harness := (true, "8b39a9c7eea17d7642c96b17606e86e4c3183035ef0f5a6dcb3bc9c54219c9fc"), looks := false }, kinds := [], alts := [], laidByText := true, laidKinds := [.data, .data, .data], laidTests := true, laidLooks := .later }
def RegionLimitsCardSaid : Prop := Claim7.holds Tryd.pinned (.plain (OpenSpec.ofChange regionLimitsSpec)) regionLimitsCard

/-- THE SECOND FORM's CARD OF 'partsynclaw04.RegionLimits'. -/
def regionLimitsUptoCard : Claim7 := { stood := { row := regionLimitsUptoRow, standIns := [], harness := (true, "8b39a9c7eea17d7642c96b17606e86e4c3183035ef0f5a6dcb3bc9c54219c9fc"), looks := false }, kinds := [], alts := [], laidByText := true, laidKinds := [.data, .data, .data], laidTests := true, laidLooks := .later }
def RegionLimitsUptoCardSaid : Prop := Claim7.holds Tryd.pinned (.plain (OpenSpec.upto regionLimitsSpec)) regionLimitsUptoCard
end Rows
end Go.Proofs.YtbkgmahpfghheaaDoor

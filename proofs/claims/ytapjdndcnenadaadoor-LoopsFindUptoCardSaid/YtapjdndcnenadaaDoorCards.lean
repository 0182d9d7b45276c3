/-
  DERIVED. GIVEN WITH THE SEED: THE CARDS: each row of YtapjdndcnenadaaDoorRows.lean that lists a variable, with what it lists TIED to the program's text (the seventh form; the later family's looks); each row that meets fmt, with fmt's text TOLD by the authors' own Lean function (tested against real Go, not proved from fmt's source: count such statements apart). THE CARD IS WHAT COUNTS. Prove the row's statement (the work); the ties are given (YtapjdndcnenadaaDoorTie.lean); close each card by the builder's one call (the guide's Derived/Test/ToyasCard.lean, 'card_holds'). Laid BY PROGRAM, IN A SANDBOX (cutbox-door.mjs). By AI agents, Wed Nov 11 2026. No macro, syntax, notation, axiom, sorry.
-/
import Derived.Test.YtapjdndcnenadaaDoorRows
import GoSem.ClaimSeven
namespace Go.Proofs.YtapjdndcnenadaaDoor
namespace Rows

/-- THE TIED CARD OF 'soffitlaw14.LoopsFind'. -/
def loopsFindCard : Claim7 := { stood := { row := loopsFindRow, standIns := [], harness := (true, "da508aa9400c6c080b8e17c31c3a412f0f4de8a98c8487c52bfa98719fed13b0"), looks := false }, kinds := [], alts := [], laidByText := true, laidKinds := [.data], laidTests := true, laidLooks := .later }
def LoopsFindCardSaid : Prop := Claim7.holds Tryd.pinned (.plain (OpenSpec.ofChange loopsFindSpec)) loopsFindCard

/-- THE TIED CARD OF 'soffitlaw14.LoopsDepth'. -/
def loopsDepthCard : Claim7 := { stood := { row := loopsDepthRow, standIns := [], harness := (true, "da508aa9400c6c080b8e17c31c3a412f0f4de8a98c8487c52bfa98719fed13b0"), looks := false }, kinds := [], alts := [], laidByText := true, laidKinds := [.data], laidTests := true, laidLooks := .later }
def LoopsDepthCardSaid : Prop := Claim7.holds Tryd.pinned (.plain (OpenSpec.ofChange loopsDepthSpec)) loopsDepthCard

/-- THE TIED CARD OF 'soffitlaw14.LoopsNest'. -/
def loopsNestCard : Claim7 := { stood := { row := loopsNestRow, standIns := [], harness := (true, "da508aa9400c6c080b8e17c31c3a412f0f4de8a98c8487c52bfa98719fed13b0"), looks := false }, kinds := [], alts := [], laidByText := true, laidKinds := [.data], laidTests := true, laidLooks := .later }
def LoopsNestCardSaid : Prop := Claim7.holds Tryd.pinned (.plain (OpenSpec.ofChange loopsNestSpec)) loopsNestCard

/-- THE TIED CARD OF 'soffitlaw14.LoopsCount'. -/
def loopsCountCard : Claim7 := { stood := { row := loopsCountRow, standIns := [], harness := (true, "da508aa9400c6c080b8e17c31c3a412f0f4de8a98c8487c52bfa98719fed13b0"), looks := false }, kinds := [], alts := [], laidByText := true, laidKinds := [.data], laidTests := true, laidLooks := .later }
def LoopsCountCardSaid : Prop := Claim7.holds Tryd.pinned (.plain (OpenSpec.ofChange loopsCountSpec)) loopsCountCard

/-- THE SECOND FORM's CARD OF 'soffitlaw14.LoopsFind'. -/
def loopsFindUptoCard : Claim7 := { stood := { row := loopsFindUptoRow, standIns := [], harness := (true, "da508aa9400c6c080b8e17c31c3a412f0f4de8a98c8487c52bfa98719fed13b0"), looks := false }, kinds := [], alts := [], laidByText := true, laidKinds := [.data], laidTests := true, laidLooks := .later }
def LoopsFindUptoCardSaid : Prop := Claim7.holds Tryd.pinned (.plain (OpenSpec.upto loopsFindSpec)) loopsFindUptoCard

/-- THE SECOND FORM's CARD OF 'soffitlaw14.LoopsDepth'. -/
def loopsDepthUptoCard : Claim7 := { stood := { row := loopsDepthUptoRow, standIns := [], harness := (true, "da508aa9400c6c080b8e17c31c3a412f0f4de8a98c8487c52bfa98719fed13b0"), looks := false }, kinds := [], alts := [], laidByText := true, laidKinds := [.data], laidTests := true, laidLooks := .later }
def LoopsDepthUptoCardSaid : Prop := Claim7.holds Tryd.pinned (.plain (OpenSpec.upto loopsDepthSpec)) loopsDepthUptoCard

/-- THE SECOND FORM's CARD OF 'soffitlaw14.LoopsNest'. -/
def loopsNestUptoCard : Claim7 := { stood := { row := loopsNestUptoRow, standIns := [], harness := (true, "da508aa9400c6c080b8e17c31c3a412f0f4de8a98c8487c52bfa98719fed13b0"), looks := false }, kinds := [], alts := [], laidByText := true, laidKinds := [.data], laidTests := true, laidLooks := .later }
def LoopsNestUptoCardSaid : Prop := Claim7.holds Tryd.pinned (.plain (OpenSpec.upto loopsNestSpec)) loopsNestUptoCard

/-- THE SECOND FORM's CARD OF 'soffitlaw14.LoopsCount'. -/
def loopsCountUptoCard : Claim7 := { stood := { row := loopsCountUptoRow, standIns := [], harness := (true, "da508aa9400c6c080b8e17c31c3a412f0f4de8a98c8487c52bfa98719fed13b0"), looks := false }, kinds := [], alts := [], laidByText := true, laidKinds := [.data], laidTests := true, laidLooks := .later }
def LoopsCountUptoCardSaid : Prop := Claim7.holds Tryd.pinned (.plain (OpenSpec.upto loopsCountSpec)) loopsCountUptoCard
end Rows
end Go.Proofs.YtapjdndcnenadaaDoor

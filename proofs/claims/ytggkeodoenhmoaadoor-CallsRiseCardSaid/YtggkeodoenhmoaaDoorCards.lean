/-
  DERIVED. GIVEN WITH THE SEED: THE CARDS: each row of YtggkeodoenhmoaaDoorRows.lean that lists a variable, with what it lists TIED to the program's text (the seventh form; the later family's looks); each row that meets fmt, with fmt's text TOLD by the authors' own Lean function (tested against real Go, not proved from fmt's source: count such statements apart). THE CARD IS WHAT COUNTS. Prove the row's statement (the work); the ties are given (YtggkeodoenhmoaaDoorTie.lean); close each card by the builder's one call (the guide's Derived/Test/ToyasCard.lean, 'card_holds'). Laid BY PROGRAM, IN A SANDBOX (cutbox-door.mjs). By AI agents, Wed Nov 11 2026. No macro, syntax, notation, axiom, sorry.
-/
import Derived.Test.YtggkeodoenhmoaaDoorRows
import GoSem.ClaimSeven
namespace Go.Proofs.YtggkeodoenhmoaaDoor
namespace Rows

/-- THE TIED CARD OF 'soffitlaw15.CallsOf'. -/
def callsOfCard : Claim7 := { stood := { row := callsOfRow, standIns := [], harness := (true, "c125d014462da3db8c4628f6c6b6dd6f1f0570a0004bcc98e6df2ef20013a4d5"), looks := false }, kinds := [], alts := [], laidByText := true, laidKinds := [.data], laidTests := true, laidLooks := .later }
def CallsOfCardSaid : Prop := Claim7.holds Tryd.pinned (.plain (OpenSpec.ofChange callsOfSpec)) callsOfCard

/-- THE TIED CARD OF 'soffitlaw15.CallsOrder'. -/
def callsOrderCard : Claim7 := { stood := { row := callsOrderRow, standIns := [], harness := (true, "c125d014462da3db8c4628f6c6b6dd6f1f0570a0004bcc98e6df2ef20013a4d5"), looks := false }, kinds := [], alts := [], laidByText := true, laidKinds := [.data], laidTests := true, laidLooks := .later }
def CallsOrderCardSaid : Prop := Claim7.holds Tryd.pinned (.plain (OpenSpec.ofChange callsOrderSpec)) callsOrderCard

/-- THE TIED CARD OF 'soffitlaw15.CallsRise'. -/
def callsRiseCard : Claim7 := { stood := { row := callsRiseRow, standIns := [], harness := (true, "c125d014462da3db8c4628f6c6b6dd6f1f0570a0004bcc98e6df2ef20013a4d5"), looks := false }, kinds := [], alts := [], laidByText := true, laidKinds := [.data], laidTests := true, laidLooks := .later }
def CallsRiseCardSaid : Prop := Claim7.holds Tryd.pinned (.plain (OpenSpec.ofChange callsRiseSpec)) callsRiseCard

/-- THE SECOND FORM's CARD OF 'soffitlaw15.CallsOf'. -/
def callsOfUptoCard : Claim7 := { stood := { row := callsOfUptoRow, standIns := [], harness := (true, "c125d014462da3db8c4628f6c6b6dd6f1f0570a0004bcc98e6df2ef20013a4d5"), looks := false }, kinds := [], alts := [], laidByText := true, laidKinds := [.data], laidTests := true, laidLooks := .later }
def CallsOfUptoCardSaid : Prop := Claim7.holds Tryd.pinned (.plain (OpenSpec.upto callsOfSpec)) callsOfUptoCard

/-- THE SECOND FORM's CARD OF 'soffitlaw15.CallsOrder'. -/
def callsOrderUptoCard : Claim7 := { stood := { row := callsOrderUptoRow, standIns := [], harness := (true, "c125d014462da3db8c4628f6c6b6dd6f1f0570a0004bcc98e6df2ef20013a4d5"), looks := false }, kinds := [], alts := [], laidByText := true, laidKinds := [.data], laidTests := true, laidLooks := .later }
def CallsOrderUptoCardSaid : Prop := Claim7.holds Tryd.pinned (.plain (OpenSpec.upto callsOrderSpec)) callsOrderUptoCard

/-- THE SECOND FORM's CARD OF 'soffitlaw15.CallsRise'. -/
def callsRiseUptoCard : Claim7 := { stood := { row := callsRiseUptoRow, standIns := [], harness := (true, "c125d014462da3db8c4628f6c6b6dd6f1f0570a0004bcc98e6df2ef20013a4d5"), looks := false }, kinds := [], alts := [], laidByText := true, laidKinds := [.data], laidTests := true, laidLooks := .later }
def CallsRiseUptoCardSaid : Prop := Claim7.holds Tryd.pinned (.plain (OpenSpec.upto callsRiseSpec)) callsRiseUptoCard
end Rows
end Go.Proofs.YtggkeodoenhmoaaDoor

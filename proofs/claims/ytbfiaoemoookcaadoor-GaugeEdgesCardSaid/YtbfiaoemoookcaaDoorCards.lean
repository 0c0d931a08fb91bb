/-
  DERIVED. GIVEN WITH THE SEED: THE CARDS: each row of YtbfiaoemoookcaaDoorRows.lean that lists a variable, with what it lists TIED to the program's text (the seventh form; the later family's looks); each row that meets fmt, with fmt's text TOLD by the authors' own Lean function (tested against real Go, not proved from fmt's source: count such statements apart). THE CARD IS WHAT COUNTS. Prove the row's statement (the work); the ties are given (YtbfiaoemoookcaaDoorTie.lean); close each card by the builder's one call (the guide's Derived/Test/ToyasCard.lean, 'card_holds'). Laid BY PROGRAM, IN A SANDBOX (cutbox-door.mjs). By AI agents, Wed Nov 11 2026. No macro, syntax, notation, axiom, sorry.
-/
import Derived.Test.YtbfiaoemoookcaaDoorRows
import GoSem.ClaimSeven
namespace Go.Proofs.YtbfiaoemoookcaaDoor
namespace Rows

/-- THE TIED CARD OF 'bootjacklaw30.GaugeOrder'. -/
def gaugeOrderCard : Claim7 := { stood := { row := gaugeOrderRow, standIns := [], harness := (true, "8461cd756d7d668abd1b7a7bdc632c183d1a1580f3c2db613003ff6556be6e07"), looks := false }, kinds := [], alts := [], laidByText := true, laidKinds := [.data, .data, .data], laidTests := true, laidLooks := .later }
def GaugeOrderCardSaid : Prop := Claim7.holds Tryd.pinned (.plain (OpenSpec.ofChange gaugeOrderSpec)) gaugeOrderCard

/-- THE TIED CARD OF 'bootjacklaw30.GaugeTells'. -/
def gaugeTellsCard : Claim7 := { stood := { row := gaugeTellsRow, standIns := [], harness := (true, "8461cd756d7d668abd1b7a7bdc632c183d1a1580f3c2db613003ff6556be6e07"), looks := false }, kinds := [], alts := [], laidByText := true, laidKinds := [.data, .data, .data], laidTests := true, laidLooks := .later }
def GaugeTellsCardSaid : Prop := Claim7.holds Tryd.pinned (.plain (OpenSpec.ofChange gaugeTellsSpec)) gaugeTellsCard

/-- THE TIED CARD OF 'bootjacklaw30.GaugeRows'. -/
def gaugeRowsCard : Claim7 := { stood := { row := gaugeRowsRow, standIns := [], harness := (true, "8461cd756d7d668abd1b7a7bdc632c183d1a1580f3c2db613003ff6556be6e07"), looks := false }, kinds := [], alts := [], laidByText := true, laidKinds := [.data, .data, .data], laidTests := true, laidLooks := .later }
def GaugeRowsCardSaid : Prop := Claim7.holds Tryd.pinned (.plain (OpenSpec.ofChange gaugeRowsSpec)) gaugeRowsCard

/-- THE TIED CARD OF 'bootjacklaw30.GaugeEnds'. -/
def gaugeEndsCard : Claim7 := { stood := { row := gaugeEndsRow, standIns := [], harness := (true, "8461cd756d7d668abd1b7a7bdc632c183d1a1580f3c2db613003ff6556be6e07"), looks := false }, kinds := [], alts := [], laidByText := true, laidKinds := [.data, .data, .data], laidTests := true, laidLooks := .later }
def GaugeEndsCardSaid : Prop := Claim7.holds Tryd.pinned (.plain (OpenSpec.ofChange gaugeEndsSpec)) gaugeEndsCard

/-- THE TIED CARD OF 'bootjacklaw30.GaugeEdges'. -/
def gaugeEdgesCard : Claim7 := { stood := { row := gaugeEdgesRow, standIns := [], harness := (true, "8461cd756d7d668abd1b7a7bdc632c183d1a1580f3c2db613003ff6556be6e07"), looks := false }, kinds := [], alts := [], laidByText := true, laidKinds := [.data, .data, .data], laidTests := true, laidLooks := .later }
def GaugeEdgesCardSaid : Prop := Claim7.holds Tryd.pinned (.plain (OpenSpec.ofChange gaugeEdgesSpec)) gaugeEdgesCard

/-- THE SECOND FORM's CARD OF 'bootjacklaw30.GaugeOrder'. -/
def gaugeOrderUptoCard : Claim7 := { stood := { row := gaugeOrderUptoRow, standIns := [], harness := (true, "8461cd756d7d668abd1b7a7bdc632c183d1a1580f3c2db613003ff6556be6e07"), looks := false }, kinds := [], alts := [], laidByText := true, laidKinds := [.data, .data, .data], laidTests := true, laidLooks := .later }
def GaugeOrderUptoCardSaid : Prop := Claim7.holds Tryd.pinned (.plain (OpenSpec.upto gaugeOrderSpec)) gaugeOrderUptoCard

/-- THE SECOND FORM's CARD OF 'bootjacklaw30.GaugeTells'. -/
def gaugeTellsUptoCard : Claim7 := { stood := { row := gaugeTellsUptoRow, standIns := [], harness := (true, "8461cd756d7d668abd1b7a7bdc632c183d1a1580f3c2db613003ff6556be6e07"), looks := false }, kinds := [], alts := [], laidByText := true, laidKinds := [.data, .data, .data], laidTests := true, laidLooks := .later }
def GaugeTellsUptoCardSaid : Prop := Claim7.holds Tryd.pinned (.plain (OpenSpec.upto gaugeTellsSpec)) gaugeTellsUptoCard

/-- THE SECOND FORM's CARD OF 'bootjacklaw30.GaugeRows'. -/
def gaugeRowsUptoCard : Claim7 := { stood := { row := gaugeRowsUptoRow, standIns := [], harness := (true, "8461cd756d7d668abd1b7a7bdc632c183d1a1580f3c2db613003ff6556be6e07"), looks := false }, kinds := [], alts := [], laidByText := true, laidKinds := [.data, .data, .data], laidTests := true, laidLooks := .later }
def GaugeRowsUptoCardSaid : Prop := Claim7.holds Tryd.pinned (.plain (OpenSpec.upto gaugeRowsSpec)) gaugeRowsUptoCard

/-- THE SECOND FORM's CARD OF 'bootjacklaw30.GaugeEnds'. -/
def gaugeEndsUptoCard : Claim7 := { stood := { row := gaugeEndsUptoRow, standIns := [], harness := (true, "8461cd756d7d668abd1b7a7bdc632c183d1a1580f3c2db613003ff6556be6e07"), looks := false }, kinds := [], alts := [], laidByText := true, laidKinds := [.data, .data, .data], laidTests := true, laidLooks := .later }
def GaugeEndsUptoCardSaid : Prop := Claim7.holds Tryd.pinned (.plain (OpenSpec.upto gaugeEndsSpec)) gaugeEndsUptoCard

/-- THE SECOND FORM's CARD OF 'bootjacklaw30.GaugeEdges'. -/
def gaugeEdgesUptoCard : Claim7 := { stood := { row := gaugeEdgesUptoRow, standIns := [], harness := (true, "8461cd756d7d668abd1b7a7bdc632c183d1a1580f3c2db613003ff6556be6e07"), looks := false }, kinds := [], alts := [], laidByText := true, laidKinds := [.data, .data, .data], laidTests := true, laidLooks := .later }
def GaugeEdgesUptoCardSaid : Prop := Claim7.holds Tryd.pinned (.plain (OpenSpec.upto gaugeEdgesSpec)) gaugeEdgesUptoCard
end Rows
end Go.Proofs.YtbfiaoemoookcaaDoor

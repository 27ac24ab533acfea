/-
  DERIVED. GIVEN WITH THE SEED: THE CARDS: each row of YtabeljpnmmfpgaaDoorRows.lean that lists a variable, with what it lists TIED to the program's text (the seventh form; the later family's looks); each row that meets fmt, with fmt's text TOLD by the authors' own Lean function (tested against real Go, not proved from fmt's source: count such statements apart). THE CARD IS WHAT COUNTS. Prove the row's statement (the work); the ties are given (YtabeljpnmmfpgaaDoorTie.lean); close each card by the builder's one call (the guide's Derived/Test/ToyasCard.lean, 'card_holds'). Laid BY PROGRAM, IN A SANDBOX (cutbox-door.mjs). By AI agents, Wed Nov 11 2026. No macro, syntax, notation, axiom, sorry.
-/
import Derived.Test.YtabeljpnmmfpgaaDoorRows
import GoSem.ClaimSeven
namespace Go.Proofs.YtabeljpnmmfpgaaDoor
namespace Rows

/-- THE TIED CARD OF 'wisplaw16.FlowWords'. -/
def flowWordsCard : Claim7 := { stood := { row := flowWordsRow, standIns := [], harness := (true, "61262d608d221d032e64e6b6592556c8234995bed55c64057a145650976c13f2"), looks := false }, kinds := [], alts := [], laidByText := true, laidKinds := [.data, .data, .data, .data], laidTests := true, laidLooks := .later }
def FlowWordsCardSaid : Prop := Claim7.holds Tryd.pinned (.plain (OpenSpec.ofChange flowWordsSpec)) flowWordsCard

/-- THE TIED CARD OF 'wisplaw16.FlowWays'. -/
def flowWaysCard : Claim7 := { stood := { row := flowWaysRow, standIns := [], harness := (true, "61262d608d221d032e64e6b6592556c8234995bed55c64057a145650976c13f2"), looks := false }, kinds := [], alts := [], laidByText := true, laidKinds := [.data, .data, .data, .data], laidTests := true, laidLooks := .later }
def FlowWaysCardSaid : Prop := Claim7.holds Tryd.pinned (.plain (OpenSpec.ofChange flowWaysSpec)) flowWaysCard

/-- THE TIED CARD OF 'wisplaw16.FlowAlone'. -/
def flowAloneCard : Claim7 := { stood := { row := flowAloneRow, standIns := [], harness := (true, "61262d608d221d032e64e6b6592556c8234995bed55c64057a145650976c13f2"), looks := false }, kinds := [], alts := [], laidByText := true, laidKinds := [.data, .data, .data, .data], laidTests := true, laidLooks := .later }
def FlowAloneCardSaid : Prop := Claim7.holds Tryd.pinned (.plain (OpenSpec.ofChange flowAloneSpec)) flowAloneCard

/-- THE TIED CARD OF 'wisplaw16.FlowNames'. -/
def flowNamesCard : Claim7 := { stood := { row := flowNamesRow, standIns := [], harness := (true, "61262d608d221d032e64e6b6592556c8234995bed55c64057a145650976c13f2"), looks := false }, kinds := [], alts := [], laidByText := true, laidKinds := [.data, .data, .data, .data], laidTests := true, laidLooks := .later }
def FlowNamesCardSaid : Prop := Claim7.holds Tryd.pinned (.plain (OpenSpec.ofChange flowNamesSpec)) flowNamesCard

/-- THE TIED CARD OF 'wisplaw16.FlowOrders'. -/
def flowOrdersCard : Claim7 := { stood := { row := flowOrdersRow, standIns := [], harness := (true, "61262d608d221d032e64e6b6592556c8234995bed55c64057a145650976c13f2"), looks := false }, kinds := [], alts := [], laidByText := true, laidKinds := [.data, .data, .data, .data], laidTests := true, laidLooks := .later }
def FlowOrdersCardSaid : Prop := Claim7.holds Tryd.pinned (.plain (OpenSpec.ofChange flowOrdersSpec)) flowOrdersCard

/-- THE TIED CARD OF 'wisplaw16.FlowBehind'. -/
def flowBehindCard : Claim7 := { stood := { row := flowBehindRow, standIns := [], harness := (true, "61262d608d221d032e64e6b6592556c8234995bed55c64057a145650976c13f2"), looks := false }, kinds := [], alts := [], laidByText := true, laidKinds := [.data, .data, .data, .data], laidTests := true, laidLooks := .later }
def FlowBehindCardSaid : Prop := Claim7.holds Tryd.pinned (.plain (OpenSpec.ofChange flowBehindSpec)) flowBehindCard

/-- THE SECOND FORM's CARD OF 'wisplaw16.FlowWords'. -/
def flowWordsUptoCard : Claim7 := { stood := { row := flowWordsUptoRow, standIns := [], harness := (true, "61262d608d221d032e64e6b6592556c8234995bed55c64057a145650976c13f2"), looks := false }, kinds := [], alts := [], laidByText := true, laidKinds := [.data, .data, .data, .data], laidTests := true, laidLooks := .later }
def FlowWordsUptoCardSaid : Prop := Claim7.holds Tryd.pinned (.plain (OpenSpec.upto flowWordsSpec)) flowWordsUptoCard

/-- THE SECOND FORM's CARD OF 'wisplaw16.FlowWays'. -/
def flowWaysUptoCard : Claim7 := { stood := { row := flowWaysUptoRow, standIns := [], harness := (true, "61262d608d221d032e64e6b6592556c8234995bed55c64057a145650976c13f2"), looks := false }, kinds := [], alts := [], laidByText := true, laidKinds := [.data, .data, .data, .data], laidTests := true, laidLooks := .later }
def FlowWaysUptoCardSaid : Prop := Claim7.holds Tryd.pinned (.plain (OpenSpec.upto flowWaysSpec)) flowWaysUptoCard

/-- THE SECOND FORM's CARD OF 'wisplaw16.FlowAlone'. -/
def flowAloneUptoCard : Claim7 := { stood := { row := flowAloneUptoRow, standIns := [], harness := (true, "61262d608d221d032e64e6b6592556c8234995bed55c64057a145650976c13f2"), looks := false }, kinds := [], alts := [], laidByText := true, laidKinds := [.data, .data, .data, .data], laidTests := true, laidLooks := .later }
def FlowAloneUptoCardSaid : Prop := Claim7.holds Tryd.pinned (.plain (OpenSpec.upto flowAloneSpec)) flowAloneUptoCard

/-- THE SECOND FORM's CARD OF 'wisplaw16.FlowNames'. -/
def flowNamesUptoCard : Claim7 := { stood := { row := flowNamesUptoRow, standIns := [], harness := (true, "61262d608d221d032e64e6b6592556c8234995bed55c64057a145650976c13f2"), looks := false }, kinds := [], alts := [], laidByText := true, laidKinds := [.data, .data, .data, .data], laidTests := true, laidLooks := .later }
def FlowNamesUptoCardSaid : Prop := Claim7.holds Tryd.pinned (.plain (OpenSpec.upto flowNamesSpec)) flowNamesUptoCard

/-- THE SECOND FORM's CARD OF 'wisplaw16.FlowOrders'. -/
def flowOrdersUptoCard : Claim7 := { stood := { row := flowOrdersUptoRow, standIns := [], harness := (true, "61262d608d221d032e64e6b6592556c8234995bed55c64057a145650976c13f2"), looks := false }, kinds := [], alts := [], laidByText := true, laidKinds := [.data, .data, .data, .data], laidTests := true, laidLooks := .later }
def FlowOrdersUptoCardSaid : Prop := Claim7.holds Tryd.pinned (.plain (OpenSpec.upto flowOrdersSpec)) flowOrdersUptoCard

/-- THE SECOND FORM's CARD OF 'wisplaw16.FlowBehind'. -/
def flowBehindUptoCard : Claim7 := { stood := { row := flowBehindUptoRow, standIns := [], harness := (true, "61262d608d221d032e64e6b6592556c8234995bed55c64057a145650976c13f2"), looks := false }, kinds := [], alts := [], laidByText := true, laidKinds := [.data, .data, .data, .data], laidTests := true, laidLooks := .later }
def FlowBehindUptoCardSaid : Prop := Claim7.holds Tryd.pinned (.plain (OpenSpec.upto flowBehindSpec)) flowBehindUptoCard
end Rows
end Go.Proofs.YtabeljpnmmfpgaaDoor

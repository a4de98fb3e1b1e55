/-
  DERIVED. GIVEN WITH THE SEED: THE CARDS: each row of YthccpdefgjneiaaDoorRows.lean that lists a variable, with what it lists TIED to the program's text (the seventh form; the later family's looks); each row that meets fmt, with fmt's text TOLD by the authors' own Lean function (tested against real Go, not proved from fmt's source: count such statements apart). THE CARD IS WHAT COUNTS. Prove the row's statement (the work); the ties are given (YthccpdefgjneiaaDoorTie.lean); close each card by the builder's one call (the guide's Derived/Test/ToyasCard.lean, 'card_holds'). Laid BY PROGRAM, IN A SANDBOX (cutbox-door.mjs). By AI agents, Wed Nov 11 2026. No macro, syntax, notation, axiom, sorry.
-/
import Derived.Test.YthccpdefgjneiaaDoorRows
import GoSem.ClaimSeven
namespace Go.Proofs.YthccpdefgjneiaaDoor
namespace Rows

/-- THE TIED CARD OF 'pantoscopelaw08.OrderConverts'. -/
def orderConvertsCard : Claim7 := { stood := { row := orderConvertsRow, standIns := [], harness := (true, "974da63d9ffca5ebba56d9e461d7dc724f51ffb271c841ff8e440062496029df"), looks := false }, kinds := [], alts := [], laidByText := true, laidKinds := [.data, .pinned], laidTests := true, laidLooks := .later }
def OrderConvertsCardSaid : Prop := Claim7.holds Tryd.pinned (.plain (OpenSpec.ofChange orderConvertsSpec)) orderConvertsCard

/-- THE TIED CARD OF 'pantoscopelaw08.OrderShares'. -/
def orderSharesCard : Claim7 := { stood := { row := orderSharesRow, standIns := [], harness := (true, "974da63d9ffca5ebba56d9e461d7dc724f51ffb271c841ff8e440062496029df"), looks := false }, kinds := [], alts := [], laidByText := true, laidKinds := [.data, .pinned], laidTests := true, laidLooks := .later }
def OrderSharesCardSaid : Prop := Claim7.holds Tryd.pinned (.plain (OpenSpec.ofChange orderSharesSpec)) orderSharesCard

/-- THE TIED CARD OF 'pantoscopelaw08.OrderSplits'. -/
def orderSplitsCard : Claim7 := { stood := { row := orderSplitsRow, standIns := [], harness := (true, "974da63d9ffca5ebba56d9e461d7dc724f51ffb271c841ff8e440062496029df"), looks := false }, kinds := [], alts := [], laidByText := true, laidKinds := [.data, .pinned], laidTests := true, laidLooks := .later }
def OrderSplitsCardSaid : Prop := Claim7.holds Tryd.pinned (.plain (OpenSpec.ofChange orderSplitsSpec)) orderSplitsCard

/-- THE TIED CARD OF 'pantoscopelaw08.OrderCredits'. -/
def orderCreditsCard : Claim7 := { stood := { row := orderCreditsRow, standIns := [], harness := (true, "974da63d9ffca5ebba56d9e461d7dc724f51ffb271c841ff8e440062496029df"), looks := false }, kinds := [], alts := [], laidByText := true, laidKinds := [.data, .pinned], laidTests := true, laidLooks := .later }
def OrderCreditsCardSaid : Prop := Claim7.holds Tryd.pinned (.plain (OpenSpec.ofChange orderCreditsSpec)) orderCreditsCard

/-- THE TIED CARD OF 'pantoscopelaw08.OrderValid'. -/
def orderValidCard : Claim7 := { stood := { row := orderValidRow, standIns := [], harness := (true, "974da63d9ffca5ebba56d9e461d7dc724f51ffb271c841ff8e440062496029df"), looks := false }, kinds := [], alts := [], laidByText := true, laidKinds := [.data, .pinned], laidTests := true, laidLooks := .later }
def OrderValidCardSaid : Prop := Claim7.holds Tryd.pinned (.plain (OpenSpec.ofChange orderValidSpec)) orderValidCard

/-- THE TIED CARD OF 'pantoscopelaw08.OrderSteps'. -/
def orderStepsCard : Claim7 := { stood := { row := orderStepsRow, standIns := [], harness := (true, "974da63d9ffca5ebba56d9e461d7dc724f51ffb271c841ff8e440062496029df"), looks := false }, kinds := [], alts := [], laidByText := true, laidKinds := [.data, .pinned], laidTests := true, laidLooks := .later }
def OrderStepsCardSaid : Prop := Claim7.holds Tryd.pinned (.plain (OpenSpec.ofChange orderStepsSpec)) orderStepsCard

/-- THE TIED CARD OF 'pantoscopelaw08.OrderPrices'. -/
def orderPricesCard : Claim7 := { stood := { row := orderPricesRow, standIns := [], harness := (true, "974da63d9ffca5ebba56d9e461d7dc724f51ffb271c841ff8e440062496029df"), looks := false }, kinds := [], alts := [], laidByText := true, laidKinds := [.data, .pinned], laidTests := true, laidLooks := .later }
def OrderPricesCardSaid : Prop := Claim7.holds Tryd.pinned (.plain (OpenSpec.ofChange orderPricesSpec)) orderPricesCard

/-- THE TIED CARD OF 'pantoscopelaw08.OrderInvoices'. -/
def orderInvoicesCard : Claim7 := { stood := { row := orderInvoicesRow, standIns := [], harness := (true, "974da63d9ffca5ebba56d9e461d7dc724f51ffb271c841ff8e440062496029df"), looks := false }, kinds := [], alts := [], laidByText := true, laidKinds := [.data, .pinned], laidTests := true, laidLooks := .later }
def OrderInvoicesCardSaid : Prop := Claim7.holds Tryd.pinned (.plain (OpenSpec.ofChange orderInvoicesSpec)) orderInvoicesCard

/-- THE TIED CARD OF 'pantoscopelaw08.OrderTurns'. -/
def orderTurnsCard : Claim7 := { stood := { row := orderTurnsRow, standIns := [], harness := (true, "974da63d9ffca5ebba56d9e461d7dc724f51ffb271c841ff8e440062496029df"), looks := false }, kinds := [], alts := [], laidByText := true, laidKinds := [.data, .pinned], laidTests := true, laidLooks := .later }
def OrderTurnsCardSaid : Prop := Claim7.holds Tryd.pinned (.plain (OpenSpec.ofChange orderTurnsSpec)) orderTurnsCard

/-- THE TIED CARD OF 'pantoscopelaw08.OrderMerges'. -/
def orderMergesCard : Claim7 := { stood := { row := orderMergesRow, standIns := [], harness := (true, "974da63d9ffca5ebba56d9e461d7dc724f51ffb271c841ff8e440062496029df"), looks := false }, kinds := [], alts := [], laidByText := true, laidKinds := [.data, .pinned], laidTests := true, laidLooks := .later }
def OrderMergesCardSaid : Prop := Claim7.holds Tryd.pinned (.plain (OpenSpec.ofChange orderMergesSpec)) orderMergesCard

/-- THE SECOND FORM's CARD OF 'pantoscopelaw08.OrderConverts'. -/
def orderConvertsUptoCard : Claim7 := { stood := { row := orderConvertsUptoRow, standIns := [], harness := (true, "974da63d9ffca5ebba56d9e461d7dc724f51ffb271c841ff8e440062496029df"), looks := false }, kinds := [], alts := [], laidByText := true, laidKinds := [.data, .pinned], laidTests := true, laidLooks := .later }
def OrderConvertsUptoCardSaid : Prop := Claim7.holds Tryd.pinned (.plain (OpenSpec.upto orderConvertsSpec)) orderConvertsUptoCard

/-- THE SECOND FORM's CARD OF 'pantoscopelaw08.OrderShares'. -/
def orderSharesUptoCard : Claim7 := { stood := { row := orderSharesUptoRow, standIns := [], harness := (true, "974da63d9ffca5ebba56d9e461d7dc724f51ffb271c841ff8e440062496029df"), looks := false }, kinds := [], alts := [], laidByText := true, laidKinds := [.data, .pinned], laidTests := true, laidLooks := .later }
def OrderSharesUptoCardSaid : Prop := Claim7.holds Tryd.pinned (.plain (OpenSpec.upto orderSharesSpec)) orderSharesUptoCard

/-- THE SECOND FORM's CARD OF 'pantoscopelaw08.OrderSplits'. -/
def orderSplitsUptoCard : Claim7 := { stood := { row := orderSplitsUptoRow, standIns := [], harness := (true, "974da63d9ffca5ebba56d9e461d7dc724f51ffb271c841ff8e440062496029df"), looks := false }, kinds := [], alts := [], laidByText := true, laidKinds := [.data, .pinned], laidTests := true, laidLooks := .later }
def OrderSplitsUptoCardSaid : Prop := Claim7.holds Tryd.pinned (.plain (OpenSpec.upto orderSplitsSpec)) orderSplitsUptoCard

/-- THE SECOND FORM's CARD OF 'pantoscopelaw08.OrderCredits'. -/
def orderCreditsUptoCard : Claim7 := { stood := { row := orderCreditsUptoRow, standIns := [], harness := (true, "974da63d9ffca5ebba56d9e461d7dc724f51ffb271c841ff8e440062496029df"), looks := false }, kinds := [], alts := [], laidByText := true, laidKinds := [.data, .pinned], laidTests := true, laidLooks := .later }
def OrderCreditsUptoCardSaid : Prop := Claim7.holds Tryd.pinned (.plain (OpenSpec.upto orderCreditsSpec)) orderCreditsUptoCard

/-- THE SECOND FORM's CARD OF 'pantoscopelaw08.OrderValid'. -/
def orderValidUptoCard : Claim7 := { stood := { row := orderValidUptoRow, standIns := [], harness := (true, "974da63d9ffca5ebba56d9e461d7dc724f51ffb271c841ff8e440062496029df"), looks := false }, kinds := [], alts := [], laidByText := true, laidKinds := [.data, .pinned], laidTests := true, laidLooks := .later }
def OrderValidUptoCardSaid : Prop := Claim7.holds Tryd.pinned (.plain (OpenSpec.upto orderValidSpec)) orderValidUptoCard

/-- THE SECOND FORM's CARD OF 'pantoscopelaw08.OrderSteps'. -/
def orderStepsUptoCard : Claim7 := { stood := { row := orderStepsUptoRow, standIns := [], harness := (true, "974da63d9ffca5ebba56d9e461d7dc724f51ffb271c841ff8e440062496029df"), looks := false }, kinds := [], alts := [], laidByText := true, laidKinds := [.data, .pinned], laidTests := true, laidLooks := .later }
def OrderStepsUptoCardSaid : Prop := Claim7.holds Tryd.pinned (.plain (OpenSpec.upto orderStepsSpec)) orderStepsUptoCard

/-- THE SECOND FORM's CARD OF 'pantoscopelaw08.OrderPrices'. -/
def orderPricesUptoCard : Claim7 := { stood := { row := orderPricesUptoRow, standIns := [], harness := (true, "974da63d9ffca5ebba56d9e461d7dc724f51ffb271c841ff8e440062496029df"), looks := false }, kinds := [], alts := [], laidByText := true, laidKinds := [.data, .pinned], laidTests := true, laidLooks := .later }
def OrderPricesUptoCardSaid : Prop := Claim7.holds Tryd.pinned (.plain (OpenSpec.upto orderPricesSpec)) orderPricesUptoCard

/-- THE SECOND FORM's CARD OF 'pantoscopelaw08.OrderInvoices'. -/
def orderInvoicesUptoCard : Claim7 := { stood := { row := orderInvoicesUptoRow, standIns := [], harness := (true, "974da63d9ffca5ebba56d9e461d7dc724f51ffb271c841ff8e440062496029df"), looks := false }, kinds := [], alts := [], laidByText := true, laidKinds := [.data, .pinned], laidTests := true, laidLooks := .later }
def OrderInvoicesUptoCardSaid : Prop := Claim7.holds Tryd.pinned (.plain (OpenSpec.upto orderInvoicesSpec)) orderInvoicesUptoCard

/-- THE SECOND FORM's CARD OF 'pantoscopelaw08.OrderTurns'. -/
def orderTurnsUptoCard : Claim7 := { stood := { row := orderTurnsUptoRow, standIns := [], harness := (true, "974da63d9ffca5ebba56d9e461d7dc724f51ffb271c841ff8e440062496029df"), looks := false }, kinds := [], alts := [], laidByText := true, laidKinds := [.data, .pinned], laidTests := true, laidLooks := .later }
def OrderTurnsUptoCardSaid : Prop := Claim7.holds Tryd.pinned (.plain (OpenSpec.upto orderTurnsSpec)) orderTurnsUptoCard

/-- THE SECOND FORM's CARD OF 'pantoscopelaw08.OrderMerges'. -/
def orderMergesUptoCard : Claim7 := { stood := { row := orderMergesUptoRow, standIns := [], harness := (true, "974da63d9ffca5ebba56d9e461d7dc724f51ffb271c841ff8e440062496029df"), looks := false }, kinds := [], alts := [], laidByText := true, laidKinds := [.data, .pinned], laidTests := true, laidLooks := .later }
def OrderMergesUptoCardSaid : Prop := Claim7.holds Tryd.pinned (.plain (OpenSpec.upto orderMergesSpec)) orderMergesUptoCard
end Rows
end Go.Proofs.YthccpdefgjneiaaDoor

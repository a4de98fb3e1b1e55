/-
  NARROWER THAN 'FOR EVERY INPUT', by the rows' own cells (each row's printed sentence says how): OrderConverts: laid · OrderShares: laid · OrderSplits: laid · OrderCredits: laid · OrderValid: laid · OrderSteps: laid · OrderPrices: laid · OrderInvoices: laid · OrderTurns: laid · OrderMerges: laid.
  DERIVED. THE GIVEN ROWS OF THIS SEAT. 10 by the template 'for every input the law returns true; each argument reads behind the call as it read before'; 0 by the template 'total and deterministic' (their statements: YthccpdefgjneiaaDoorTotals.lean).
  GIVEN WITH THE SEED: the statements are not yours to turn. If you find one false, say at which input.
  Laid BY PROGRAM, IN A SANDBOX (cutbox-rows.mjs): the forced cells as the released guide's own fill.sh prints them over the translation 9ace316f0c7c7929… (all of the seat's roots in one cut). By AI agents, Wed Nov 11 2026. No macro, syntax, notation, axiom, sorry.
-/
import Derived.Test.YthccpdefgjneiaaDoorChecked
import GoSem.PinnedTables
import GoSem.Claim
import GoSem.ClaimJoined
import GoSem.ClaimMapViews
import Derived.JoinedTies
import Derived.KernelRfl
namespace Go.Proofs.YthccpdefgjneiaaDoor
/- THE CELL 'sum', in the pinned program and in every row, IS THE sha256 OF THE DUMP (.gsa) THAT YthccpdefgjneiaaDoorProg.lean LOADS. Nothing in Lean hashes anything: it is a label: what it is worth is what the hold of that sum in a sandbox is worth. -/
noncomputable def Tryd.pinned : Pinned := { name := "ythccpdefgjneiaadoor", sum := "9ace316f0c7c79295a1fa668003b3c3b04a876ae1782367559a1701924d5555d", checked := Tryd.checked }
namespace Rows
def none {H : Type} : Left H := { results := [], args := [] }

/- WHAT THE LISTED PACKAGE-LEVEL VARIABLES READ AS WHEN THE CALL BEGINS. Each datum BY PROGRAM (the guide's laid-datum.mjs) off the statement by which the dump's own 'gosem.cut.vars' lays the variable. In a bare row this is a premise. The card (YthccpdefgjneiaaDoorCards.lean) ties it to the program's text. -/
def laid_unicode_utf8_acceptRanges {H : Type} : DataW H := .agg [.agg [.lit (.int .u8 128), .lit (.int .u8 191)], .agg [.lit (.int .u8 160), .lit (.int .u8 191)], .agg [.lit (.int .u8 128), .lit (.int .u8 159)], .agg [.lit (.int .u8 144), .lit (.int .u8 191)], .agg [.lit (.int .u8 128), .lit (.int .u8 143)], .agg [.lit (.int .u8 0), .lit (.int .u8 0)], .agg [.lit (.int .u8 0), .lit (.int .u8 0)], .agg [.lit (.int .u8 0), .lit (.int .u8 0)], .agg [.lit (.int .u8 0), .lit (.int .u8 0)], .agg [.lit (.int .u8 0), .lit (.int .u8 0)], .agg [.lit (.int .u8 0), .lit (.int .u8 0)], .agg [.lit (.int .u8 0), .lit (.int .u8 0)], .agg [.lit (.int .u8 0), .lit (.int .u8 0)], .agg [.lit (.int .u8 0), .lit (.int .u8 0)], .agg [.lit (.int .u8 0), .lit (.int .u8 0)], .agg [.lit (.int .u8 0), .lit (.int .u8 0)]]
/-- One of Go's own tables, pinned by name: the form's constant. -/
def laid_unicode_utf8_first : DataW Unit := Go.Pinned.utf8First

/-- 'pantoscopelaw08.OrderConverts': WHATEVER THE INPUT: true; the input reads as it did. -/
def orderConvertsSpec : ChangeSpec := { name := "orderConverts", fn := fun _ => fun
  | [d1, d2, d3] => { results := [.lit (.bool true)], args := [d1, d2, d3] }
  | _ => none }
def orderConvertsRow : OpenClaim := { program := "ythccpdefgjneiaadoor", sum := "9ace316f0c7c79295a1fa668003b3c3b04a876ae1782367559a1701924d5555d", func := "pantoscope/pantoscopelaw08.OrderConverts", spec := "orderConverts", inPlace := ["internal/bytealg.IndexByteString", "internal/bytealg.IndexString"], unfollowed := true, recurses := true, named := ["unicode/utf8.first", "unicode/utf8.acceptRanges", "internal/bytealg.MaxLen"], plainKeys := false, apart := false, laid := [("unicode/utf8.acceptRanges", laid_unicode_utf8_acceptRanges), ("unicode/utf8.first", laid_unicode_utf8_first)] }
def OrderConvertsSaid : Prop := orderConvertsRow.holds Tryd.pinned (OpenSpec.ofChange orderConvertsSpec)

/-- ITS FALSE NEIGHBOUR: 'it returns false'. Refute it at one input. -/
def orderConvertsWrong : ChangeSpec := { name := "orderConverts", fn := fun _ => fun
  | [d1, d2, d3] => { results := [.lit (.bool false)], args := [d1, d2, d3] }
  | _ => none }
def OrderConvertsWrongFalsely : Prop := orderConvertsRow.holds Tryd.pinned (OpenSpec.ofChange orderConvertsWrong)

/-- 'pantoscopelaw08.OrderShares': WHATEVER THE INPUT: true; the input reads as it did. -/
def orderSharesSpec : ChangeSpec := { name := "orderShares", fn := fun _ => fun
  | [d1, d2] => { results := [.lit (.bool true)], args := [d1, d2] }
  | _ => none }
def orderSharesRow : OpenClaim := { program := "ythccpdefgjneiaadoor", sum := "9ace316f0c7c79295a1fa668003b3c3b04a876ae1782367559a1701924d5555d", func := "pantoscope/pantoscopelaw08.OrderShares", spec := "orderShares", inPlace := ["internal/bytealg.IndexByteString", "internal/bytealg.IndexString"], unfollowed := true, recurses := true, named := ["unicode/utf8.first", "unicode/utf8.acceptRanges", "internal/bytealg.MaxLen"], plainKeys := false, apart := false, laid := [("unicode/utf8.acceptRanges", laid_unicode_utf8_acceptRanges), ("unicode/utf8.first", laid_unicode_utf8_first)] }
def OrderSharesSaid : Prop := orderSharesRow.holds Tryd.pinned (OpenSpec.ofChange orderSharesSpec)

/-- ITS FALSE NEIGHBOUR: 'it returns false'. Refute it at one input. -/
def orderSharesWrong : ChangeSpec := { name := "orderShares", fn := fun _ => fun
  | [d1, d2] => { results := [.lit (.bool false)], args := [d1, d2] }
  | _ => none }
def OrderSharesWrongFalsely : Prop := orderSharesRow.holds Tryd.pinned (OpenSpec.ofChange orderSharesWrong)

/-- 'pantoscopelaw08.OrderSplits': WHATEVER THE INPUT: true; the input reads as it did. -/
def orderSplitsSpec : ChangeSpec := { name := "orderSplits", fn := fun _ => fun
  | [d1, d2, d3] => { results := [.lit (.bool true)], args := [d1, d2, d3] }
  | _ => none }
def orderSplitsRow : OpenClaim := { program := "ythccpdefgjneiaadoor", sum := "9ace316f0c7c79295a1fa668003b3c3b04a876ae1782367559a1701924d5555d", func := "pantoscope/pantoscopelaw08.OrderSplits", spec := "orderSplits", inPlace := ["internal/bytealg.IndexByteString", "internal/bytealg.IndexString"], unfollowed := true, recurses := true, named := ["unicode/utf8.first", "unicode/utf8.acceptRanges", "internal/bytealg.MaxLen"], plainKeys := false, apart := false, laid := [("unicode/utf8.acceptRanges", laid_unicode_utf8_acceptRanges), ("unicode/utf8.first", laid_unicode_utf8_first)] }
def OrderSplitsSaid : Prop := orderSplitsRow.holds Tryd.pinned (OpenSpec.ofChange orderSplitsSpec)

/-- ITS FALSE NEIGHBOUR: 'it returns false'. Refute it at one input. -/
def orderSplitsWrong : ChangeSpec := { name := "orderSplits", fn := fun _ => fun
  | [d1, d2, d3] => { results := [.lit (.bool false)], args := [d1, d2, d3] }
  | _ => none }
def OrderSplitsWrongFalsely : Prop := orderSplitsRow.holds Tryd.pinned (OpenSpec.ofChange orderSplitsWrong)

/-- 'pantoscopelaw08.OrderCredits': WHATEVER THE INPUT: true; the input reads as it did. -/
def orderCreditsSpec : ChangeSpec := { name := "orderCredits", fn := fun _ => fun
  | [d1, d2, d3] => { results := [.lit (.bool true)], args := [d1, d2, d3] }
  | _ => none }
def orderCreditsRow : OpenClaim := { program := "ythccpdefgjneiaadoor", sum := "9ace316f0c7c79295a1fa668003b3c3b04a876ae1782367559a1701924d5555d", func := "pantoscope/pantoscopelaw08.OrderCredits", spec := "orderCredits", inPlace := ["internal/bytealg.IndexByteString", "internal/bytealg.IndexString"], unfollowed := true, recurses := true, named := ["unicode/utf8.first", "unicode/utf8.acceptRanges", "internal/bytealg.MaxLen"], plainKeys := false, apart := false, laid := [("unicode/utf8.acceptRanges", laid_unicode_utf8_acceptRanges), ("unicode/utf8.first", laid_unicode_utf8_first)] }
def OrderCreditsSaid : Prop := orderCreditsRow.holds Tryd.pinned (OpenSpec.ofChange orderCreditsSpec)

/-- ITS FALSE NEIGHBOUR: 'it returns false'. Refute it at one input. -/
def orderCreditsWrong : ChangeSpec := { name := "orderCredits", fn := fun _ => fun
  | [d1, d2, d3] => { results := [.lit (.bool false)], args := [d1, d2, d3] }
  | _ => none }
def OrderCreditsWrongFalsely : Prop := orderCreditsRow.holds Tryd.pinned (OpenSpec.ofChange orderCreditsWrong)

/-- 'pantoscopelaw08.OrderValid': WHATEVER THE INPUT: true; the input reads as it did. -/
def orderValidSpec : ChangeSpec := { name := "orderValid", fn := fun _ => fun
  | [d1, d2] => { results := [.lit (.bool true)], args := [d1, d2] }
  | _ => none }
def orderValidRow : OpenClaim := { program := "ythccpdefgjneiaadoor", sum := "9ace316f0c7c79295a1fa668003b3c3b04a876ae1782367559a1701924d5555d", func := "pantoscope/pantoscopelaw08.OrderValid", spec := "orderValid", inPlace := ["internal/bytealg.IndexByteString", "internal/bytealg.IndexString"], unfollowed := true, recurses := true, named := ["unicode/utf8.first", "unicode/utf8.acceptRanges", "internal/bytealg.MaxLen"], plainKeys := false, apart := false, laid := [("unicode/utf8.acceptRanges", laid_unicode_utf8_acceptRanges), ("unicode/utf8.first", laid_unicode_utf8_first)] }
def OrderValidSaid : Prop := orderValidRow.holds Tryd.pinned (OpenSpec.ofChange orderValidSpec)

/-- ITS FALSE NEIGHBOUR: 'it returns false'. Refute it at one input. -/
def orderValidWrong : ChangeSpec := { name := "orderValid", fn := fun _ => fun
  | [d1, d2] => { results := [.lit (.bool false)], args := [d1, d2] }
  | _ => none }
def OrderValidWrongFalsely : Prop := orderValidRow.holds Tryd.pinned (OpenSpec.ofChange orderValidWrong)

/-- 'pantoscopelaw08.OrderSteps': WHATEVER THE INPUT: true; the input reads as it did. -/
def orderStepsSpec : ChangeSpec := { name := "orderSteps", fn := fun _ => fun
  | [d1, d2, d3] => { results := [.lit (.bool true)], args := [d1, d2, d3] }
  | _ => none }
def orderStepsRow : OpenClaim := { program := "ythccpdefgjneiaadoor", sum := "9ace316f0c7c79295a1fa668003b3c3b04a876ae1782367559a1701924d5555d", func := "pantoscope/pantoscopelaw08.OrderSteps", spec := "orderSteps", inPlace := ["internal/bytealg.IndexByteString", "internal/bytealg.IndexString"], unfollowed := true, recurses := true, named := ["unicode/utf8.first", "unicode/utf8.acceptRanges", "internal/bytealg.MaxLen"], plainKeys := false, apart := false, laid := [("unicode/utf8.acceptRanges", laid_unicode_utf8_acceptRanges), ("unicode/utf8.first", laid_unicode_utf8_first)] }
def OrderStepsSaid : Prop := orderStepsRow.holds Tryd.pinned (OpenSpec.ofChange orderStepsSpec)

/-- ITS FALSE NEIGHBOUR: 'it returns false'. Refute it at one input. -/
def orderStepsWrong : ChangeSpec := { name := "orderSteps", fn := fun _ => fun
  | [d1, d2, d3] => { results := [.lit (.bool false)], args := [d1, d2, d3] }
  | _ => none }
def OrderStepsWrongFalsely : Prop := orderStepsRow.holds Tryd.pinned (OpenSpec.ofChange orderStepsWrong)

/-- 'pantoscopelaw08.OrderPrices': WHATEVER THE INPUT: true; the input reads as it did. -/
def orderPricesSpec : ChangeSpec := { name := "orderPrices", fn := fun _ => fun
  | [d1, d2] => { results := [.lit (.bool true)], args := [d1, d2] }
  | _ => none }
def orderPricesRow : OpenClaim := { program := "ythccpdefgjneiaadoor", sum := "9ace316f0c7c79295a1fa668003b3c3b04a876ae1782367559a1701924d5555d", func := "pantoscope/pantoscopelaw08.OrderPrices", spec := "orderPrices", inPlace := ["internal/bytealg.IndexByteString", "internal/bytealg.IndexString"], unfollowed := true, recurses := true, named := ["unicode/utf8.first", "unicode/utf8.acceptRanges", "internal/bytealg.MaxLen"], plainKeys := false, apart := false, laid := [("unicode/utf8.acceptRanges", laid_unicode_utf8_acceptRanges), ("unicode/utf8.first", laid_unicode_utf8_first)] }
def OrderPricesSaid : Prop := orderPricesRow.holds Tryd.pinned (OpenSpec.ofChange orderPricesSpec)

/-- ITS FALSE NEIGHBOUR: 'it returns false'. Refute it at one input. -/
def orderPricesWrong : ChangeSpec := { name := "orderPrices", fn := fun _ => fun
  | [d1, d2] => { results := [.lit (.bool false)], args := [d1, d2] }
  | _ => none }
def OrderPricesWrongFalsely : Prop := orderPricesRow.holds Tryd.pinned (OpenSpec.ofChange orderPricesWrong)

/-- 'pantoscopelaw08.OrderInvoices': WHATEVER THE INPUT: true; the input reads as it did. -/
def orderInvoicesSpec : ChangeSpec := { name := "orderInvoices", fn := fun _ => fun
  | [d1, d2, d3] => { results := [.lit (.bool true)], args := [d1, d2, d3] }
  | _ => none }
def orderInvoicesRow : OpenClaim := { program := "ythccpdefgjneiaadoor", sum := "9ace316f0c7c79295a1fa668003b3c3b04a876ae1782367559a1701924d5555d", func := "pantoscope/pantoscopelaw08.OrderInvoices", spec := "orderInvoices", inPlace := ["internal/bytealg.IndexByteString", "internal/bytealg.IndexString"], unfollowed := true, recurses := true, named := ["unicode/utf8.first", "unicode/utf8.acceptRanges", "internal/bytealg.MaxLen"], plainKeys := false, apart := false, laid := [("unicode/utf8.acceptRanges", laid_unicode_utf8_acceptRanges), ("unicode/utf8.first", laid_unicode_utf8_first)] }
def OrderInvoicesSaid : Prop := orderInvoicesRow.holds Tryd.pinned (OpenSpec.ofChange orderInvoicesSpec)

/-- ITS FALSE NEIGHBOUR: 'it returns false'. Refute it at one input. -/
def orderInvoicesWrong : ChangeSpec := { name := "orderInvoices", fn := fun _ => fun
  | [d1, d2, d3] => { results := [.lit (.bool false)], args := [d1, d2, d3] }
  | _ => none }
def OrderInvoicesWrongFalsely : Prop := orderInvoicesRow.holds Tryd.pinned (OpenSpec.ofChange orderInvoicesWrong)

/-- 'pantoscopelaw08.OrderTurns': WHATEVER THE INPUT: true; the input reads as it did. -/
def orderTurnsSpec : ChangeSpec := { name := "orderTurns", fn := fun _ => fun
  | [d1, d2, d3] => { results := [.lit (.bool true)], args := [d1, d2, d3] }
  | _ => none }
def orderTurnsRow : OpenClaim := { program := "ythccpdefgjneiaadoor", sum := "9ace316f0c7c79295a1fa668003b3c3b04a876ae1782367559a1701924d5555d", func := "pantoscope/pantoscopelaw08.OrderTurns", spec := "orderTurns", inPlace := ["internal/bytealg.IndexByteString", "internal/bytealg.IndexString"], unfollowed := true, recurses := true, named := ["unicode/utf8.first", "unicode/utf8.acceptRanges", "internal/bytealg.MaxLen"], plainKeys := false, apart := false, laid := [("unicode/utf8.acceptRanges", laid_unicode_utf8_acceptRanges), ("unicode/utf8.first", laid_unicode_utf8_first)] }
def OrderTurnsSaid : Prop := orderTurnsRow.holds Tryd.pinned (OpenSpec.ofChange orderTurnsSpec)

/-- ITS FALSE NEIGHBOUR: 'it returns false'. Refute it at one input. -/
def orderTurnsWrong : ChangeSpec := { name := "orderTurns", fn := fun _ => fun
  | [d1, d2, d3] => { results := [.lit (.bool false)], args := [d1, d2, d3] }
  | _ => none }
def OrderTurnsWrongFalsely : Prop := orderTurnsRow.holds Tryd.pinned (OpenSpec.ofChange orderTurnsWrong)

/-- 'pantoscopelaw08.OrderMerges': WHATEVER THE INPUT: true; the input reads as it did. -/
def orderMergesSpec : ChangeSpec := { name := "orderMerges", fn := fun _ => fun
  | [d1, d2] => { results := [.lit (.bool true)], args := [d1, d2] }
  | _ => none }
def orderMergesRow : OpenClaim := { program := "ythccpdefgjneiaadoor", sum := "9ace316f0c7c79295a1fa668003b3c3b04a876ae1782367559a1701924d5555d", func := "pantoscope/pantoscopelaw08.OrderMerges", spec := "orderMerges", inPlace := ["internal/bytealg.IndexByteString", "internal/bytealg.IndexString"], unfollowed := true, recurses := true, named := ["unicode/utf8.first", "unicode/utf8.acceptRanges", "internal/bytealg.MaxLen"], plainKeys := false, apart := false, laid := [("unicode/utf8.acceptRanges", laid_unicode_utf8_acceptRanges), ("unicode/utf8.first", laid_unicode_utf8_first)] }
def OrderMergesSaid : Prop := orderMergesRow.holds Tryd.pinned (OpenSpec.ofChange orderMergesSpec)

/-- ITS FALSE NEIGHBOUR: 'it returns false'. Refute it at one input. -/
def orderMergesWrong : ChangeSpec := { name := "orderMerges", fn := fun _ => fun
  | [d1, d2] => { results := [.lit (.bool false)], args := [d1, d2] }
  | _ => none }
def OrderMergesWrongFalsely : Prop := orderMergesRow.holds Tryd.pinned (OpenSpec.ofChange orderMergesWrong)

/- THE SECOND FORM. 'bulk': how many values and letters a reading holds, each counted each time it is reached (what is shared counts as often as it is met; a slice's spare places count too). A statement '..UptoSaid' is the law's where the arguments, and the package variables that the reading takes, are together of bulk at most 1048576: NARROWER than '..Said'. Prove '..Said' where nothing that the law and all that it calls make is longer than what came in: it says more and counts as full. Else prove '..UptoSaid'. A law counts once. -/
mutual
def uptoBulk {H : Type} : DataW H → Nat
  | .lit (.string bytes) => bytes.length + 1
  | .lit _ => 1
  | .nil => 1
  | .ptr d => uptoBulk d + 1
  | .slice elems spare => uptoBulkAll elems + uptoBulkAll spare + 1
  | .agg parts => uptoBulkAll parts + 1
  | .iface _ d => uptoBulk d + 1
  | .map entries => uptoBulkEntries entries + 1
  | .held _ => 1
def uptoBulkAll {H : Type} : List (DataW H) → Nat
  | [] => 0
  | d :: r => uptoBulk d + uptoBulkAll r
def uptoBulkEntries {H : Type} : List (Lit × DataW H) → Nat
  | [] => 0
  | x :: r => uptoBulkEntry x + uptoBulkEntries r
def uptoBulkEntry {H : Type} : Lit × DataW H → Nat
  | (.string bytes, d) => bytes.length + uptoBulk d + 1
  | (_, d) => uptoBulk d + 1
 end
def uptoSmall : (H : Type) → List (DataW H) → Bool := fun _ ds => decide (uptoBulkAll ds ≤ 1048576)
def OpenSpec.upto (s : _root_.Go.ChangeSpec) : _root_.Go.OpenSpec := { _root_.Go.OpenSpec.ofChange s with cond := some uptoSmall }

/-- 'pantoscopelaw08.OrderConverts', WHERE WHAT IT READS IS OF BULK AT MOST 1048576: true; the input reads as it did. -/
def orderConvertsUptoRow : OpenClaim := { program := "ythccpdefgjneiaadoor", sum := "9ace316f0c7c79295a1fa668003b3c3b04a876ae1782367559a1701924d5555d", func := "pantoscope/pantoscopelaw08.OrderConverts", spec := "orderConverts", inPlace := ["internal/bytealg.IndexByteString", "internal/bytealg.IndexString"], unfollowed := true, recurses := true, named := ["unicode/utf8.first", "unicode/utf8.acceptRanges", "internal/bytealg.MaxLen"], plainKeys := false, apart := false, laid := [("unicode/utf8.acceptRanges", laid_unicode_utf8_acceptRanges), ("unicode/utf8.first", laid_unicode_utf8_first)], narrowed := true }
def OrderConvertsUptoSaid : Prop := orderConvertsUptoRow.holds Tryd.pinned (OpenSpec.upto orderConvertsSpec)

/-- 'pantoscopelaw08.OrderShares', WHERE WHAT IT READS IS OF BULK AT MOST 1048576: true; the input reads as it did. -/
def orderSharesUptoRow : OpenClaim := { program := "ythccpdefgjneiaadoor", sum := "9ace316f0c7c79295a1fa668003b3c3b04a876ae1782367559a1701924d5555d", func := "pantoscope/pantoscopelaw08.OrderShares", spec := "orderShares", inPlace := ["internal/bytealg.IndexByteString", "internal/bytealg.IndexString"], unfollowed := true, recurses := true, named := ["unicode/utf8.first", "unicode/utf8.acceptRanges", "internal/bytealg.MaxLen"], plainKeys := false, apart := false, laid := [("unicode/utf8.acceptRanges", laid_unicode_utf8_acceptRanges), ("unicode/utf8.first", laid_unicode_utf8_first)], narrowed := true }
def OrderSharesUptoSaid : Prop := orderSharesUptoRow.holds Tryd.pinned (OpenSpec.upto orderSharesSpec)

/-- 'pantoscopelaw08.OrderSplits', WHERE WHAT IT READS IS OF BULK AT MOST 1048576: true; the input reads as it did. -/
def orderSplitsUptoRow : OpenClaim := { program := "ythccpdefgjneiaadoor", sum := "9ace316f0c7c79295a1fa668003b3c3b04a876ae1782367559a1701924d5555d", func := "pantoscope/pantoscopelaw08.OrderSplits", spec := "orderSplits", inPlace := ["internal/bytealg.IndexByteString", "internal/bytealg.IndexString"], unfollowed := true, recurses := true, named := ["unicode/utf8.first", "unicode/utf8.acceptRanges", "internal/bytealg.MaxLen"], plainKeys := false, apart := false, laid := [("unicode/utf8.acceptRanges", laid_unicode_utf8_acceptRanges), ("unicode/utf8.first", laid_unicode_utf8_first)], narrowed := true }
def OrderSplitsUptoSaid : Prop := orderSplitsUptoRow.holds Tryd.pinned (OpenSpec.upto orderSplitsSpec)

/-- 'pantoscopelaw08.OrderCredits', WHERE WHAT IT READS IS OF BULK AT MOST 1048576: true; the input reads as it did. -/
def orderCreditsUptoRow : OpenClaim := { program := "ythccpdefgjneiaadoor", sum := "9ace316f0c7c79295a1fa668003b3c3b04a876ae1782367559a1701924d5555d", func := "pantoscope/pantoscopelaw08.OrderCredits", spec := "orderCredits", inPlace := ["internal/bytealg.IndexByteString", "internal/bytealg.IndexString"], unfollowed := true, recurses := true, named := ["unicode/utf8.first", "unicode/utf8.acceptRanges", "internal/bytealg.MaxLen"], plainKeys := false, apart := false, laid := [("unicode/utf8.acceptRanges", laid_unicode_utf8_acceptRanges), ("unicode/utf8.first", laid_unicode_utf8_first)], narrowed := true }
def OrderCreditsUptoSaid : Prop := orderCreditsUptoRow.holds Tryd.pinned (OpenSpec.upto orderCreditsSpec)

/-- 'pantoscopelaw08.OrderValid', WHERE WHAT IT READS IS OF BULK AT MOST 1048576: true; the input reads as it did. -/
def orderValidUptoRow : OpenClaim := { program := "ythccpdefgjneiaadoor", sum := "9ace316f0c7c79295a1fa668003b3c3b04a876ae1782367559a1701924d5555d", func := "pantoscope/pantoscopelaw08.OrderValid", spec := "orderValid", inPlace := ["internal/bytealg.IndexByteString", "internal/bytealg.IndexString"], unfollowed := true, recurses := true, named := ["unicode/utf8.first", "unicode/utf8.acceptRanges", "internal/bytealg.MaxLen"], plainKeys := false, apart := false, laid := [("unicode/utf8.acceptRanges", laid_unicode_utf8_acceptRanges), ("unicode/utf8.first", laid_unicode_utf8_first)], narrowed := true }
def OrderValidUptoSaid : Prop := orderValidUptoRow.holds Tryd.pinned (OpenSpec.upto orderValidSpec)

/-- 'pantoscopelaw08.OrderSteps', WHERE WHAT IT READS IS OF BULK AT MOST 1048576: true; the input reads as it did. -/
def orderStepsUptoRow : OpenClaim := { program := "ythccpdefgjneiaadoor", sum := "9ace316f0c7c79295a1fa668003b3c3b04a876ae1782367559a1701924d5555d", func := "pantoscope/pantoscopelaw08.OrderSteps", spec := "orderSteps", inPlace := ["internal/bytealg.IndexByteString", "internal/bytealg.IndexString"], unfollowed := true, recurses := true, named := ["unicode/utf8.first", "unicode/utf8.acceptRanges", "internal/bytealg.MaxLen"], plainKeys := false, apart := false, laid := [("unicode/utf8.acceptRanges", laid_unicode_utf8_acceptRanges), ("unicode/utf8.first", laid_unicode_utf8_first)], narrowed := true }
def OrderStepsUptoSaid : Prop := orderStepsUptoRow.holds Tryd.pinned (OpenSpec.upto orderStepsSpec)

/-- 'pantoscopelaw08.OrderPrices', WHERE WHAT IT READS IS OF BULK AT MOST 1048576: true; the input reads as it did. -/
def orderPricesUptoRow : OpenClaim := { program := "ythccpdefgjneiaadoor", sum := "9ace316f0c7c79295a1fa668003b3c3b04a876ae1782367559a1701924d5555d", func := "pantoscope/pantoscopelaw08.OrderPrices", spec := "orderPrices", inPlace := ["internal/bytealg.IndexByteString", "internal/bytealg.IndexString"], unfollowed := true, recurses := true, named := ["unicode/utf8.first", "unicode/utf8.acceptRanges", "internal/bytealg.MaxLen"], plainKeys := false, apart := false, laid := [("unicode/utf8.acceptRanges", laid_unicode_utf8_acceptRanges), ("unicode/utf8.first", laid_unicode_utf8_first)], narrowed := true }
def OrderPricesUptoSaid : Prop := orderPricesUptoRow.holds Tryd.pinned (OpenSpec.upto orderPricesSpec)

/-- 'pantoscopelaw08.OrderInvoices', WHERE WHAT IT READS IS OF BULK AT MOST 1048576: true; the input reads as it did. -/
def orderInvoicesUptoRow : OpenClaim := { program := "ythccpdefgjneiaadoor", sum := "9ace316f0c7c79295a1fa668003b3c3b04a876ae1782367559a1701924d5555d", func := "pantoscope/pantoscopelaw08.OrderInvoices", spec := "orderInvoices", inPlace := ["internal/bytealg.IndexByteString", "internal/bytealg.IndexString"], unfollowed := true, recurses := true, named := ["unicode/utf8.first", "unicode/utf8.acceptRanges", "internal/bytealg.MaxLen"], plainKeys := false, apart := false, laid := [("unicode/utf8.acceptRanges", laid_unicode_utf8_acceptRanges), ("unicode/utf8.first", laid_unicode_utf8_first)], narrowed := true }
def OrderInvoicesUptoSaid : Prop := orderInvoicesUptoRow.holds Tryd.pinned (OpenSpec.upto orderInvoicesSpec)

/-- 'pantoscopelaw08.OrderTurns', WHERE WHAT IT READS IS OF BULK AT MOST 1048576: true; the input reads as it did. -/
def orderTurnsUptoRow : OpenClaim := { program := "ythccpdefgjneiaadoor", sum := "9ace316f0c7c79295a1fa668003b3c3b04a876ae1782367559a1701924d5555d", func := "pantoscope/pantoscopelaw08.OrderTurns", spec := "orderTurns", inPlace := ["internal/bytealg.IndexByteString", "internal/bytealg.IndexString"], unfollowed := true, recurses := true, named := ["unicode/utf8.first", "unicode/utf8.acceptRanges", "internal/bytealg.MaxLen"], plainKeys := false, apart := false, laid := [("unicode/utf8.acceptRanges", laid_unicode_utf8_acceptRanges), ("unicode/utf8.first", laid_unicode_utf8_first)], narrowed := true }
def OrderTurnsUptoSaid : Prop := orderTurnsUptoRow.holds Tryd.pinned (OpenSpec.upto orderTurnsSpec)

/-- 'pantoscopelaw08.OrderMerges', WHERE WHAT IT READS IS OF BULK AT MOST 1048576: true; the input reads as it did. -/
def orderMergesUptoRow : OpenClaim := { program := "ythccpdefgjneiaadoor", sum := "9ace316f0c7c79295a1fa668003b3c3b04a876ae1782367559a1701924d5555d", func := "pantoscope/pantoscopelaw08.OrderMerges", spec := "orderMerges", inPlace := ["internal/bytealg.IndexByteString", "internal/bytealg.IndexString"], unfollowed := true, recurses := true, named := ["unicode/utf8.first", "unicode/utf8.acceptRanges", "internal/bytealg.MaxLen"], plainKeys := false, apart := false, laid := [("unicode/utf8.acceptRanges", laid_unicode_utf8_acceptRanges), ("unicode/utf8.first", laid_unicode_utf8_first)], narrowed := true }
def OrderMergesUptoSaid : Prop := orderMergesUptoRow.holds Tryd.pinned (OpenSpec.upto orderMergesSpec)

end Rows
end Go.Proofs.YthccpdefgjneiaaDoor

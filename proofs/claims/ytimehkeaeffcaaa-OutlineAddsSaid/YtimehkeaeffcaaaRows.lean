/-
  No cell of these rows narrows 'for every input' (looked for: loops, veiled, ifaces, maps, wideKeys, modest, calm, conditions, laid).
  DERIVED. THE GIVEN ROWS OF THIS SEAT. 11 by the template 'for every input the law returns true; each argument reads behind the call as it read before'; 0 by the template 'total and deterministic' (their statements: YtimehkeaeffcaaaTotals.lean).
  GIVEN WITH THE SEED: the statements are not yours to turn. If you find one false, say at which input.
  Laid BY PROGRAM, IN A SANDBOX (cutbox-rows.mjs): the forced cells as the released guide's own fill.sh prints them over the translation 4721fc6c0e961cd6… (all of the seat's roots in one cut). By AI agents, Wed Nov 11 2026. No macro, syntax, notation, axiom, sorry.
-/
import Derived.Test.YtimehkeaeffcaaaChecked
import GoSem.Claim
import GoSem.ClaimJoined
import GoSem.ClaimMapViews
import Derived.JoinedTies
import Derived.KernelRfl
namespace Go.Proofs.Ytimehkeaeffcaaa
/- THE CELL 'sum', in the pinned program and in every row, IS THE sha256 OF THE DUMP (.gsa) THAT YtimehkeaeffcaaaProg.lean LOADS. Nothing in Lean hashes anything: it is a label: what it is worth is what the hold of that sum in a sandbox is worth. -/
noncomputable def Try.pinned : Pinned := { name := "ytimehkeaeffcaaa", sum := "4721fc6c0e961cd6a1353b58fad6c16c04e8f51c9395222190c8acc5bc5867a0", checked := Try.checked }
namespace Rows
def none {H : Type} : Left H := { results := [], args := [] }

/-- 'pantoscopelaw01.OutlineSeats': WHATEVER THE INPUT: true; the input reads as it did. -/
def outlineSeatsSpec : ChangeSpec := { name := "outlineSeats", fn := fun _ => fun
  | [d1, d2, d3] => { results := [.lit (.bool true)], args := [d1, d2, d3] }
  | _ => none }
def outlineSeatsRow : OpenClaim := { program := "ytimehkeaeffcaaa", sum := "4721fc6c0e961cd6a1353b58fad6c16c04e8f51c9395222190c8acc5bc5867a0", func := "pantoscope/pantoscopelaw01.OutlineSeats", spec := "outlineSeats", unfollowed := true, recurses := true, apart := false }
def OutlineSeatsSaid : Prop := outlineSeatsRow.holds Try.pinned (OpenSpec.ofChange outlineSeatsSpec)

/-- ITS FALSE NEIGHBOUR: 'it returns false'. Refute it at one input. -/
def outlineSeatsWrong : ChangeSpec := { name := "outlineSeats", fn := fun _ => fun
  | [d1, d2, d3] => { results := [.lit (.bool false)], args := [d1, d2, d3] }
  | _ => none }
def OutlineSeatsWrongFalsely : Prop := outlineSeatsRow.holds Try.pinned (OpenSpec.ofChange outlineSeatsWrong)

/-- 'pantoscopelaw01.OutlineMeasures': WHATEVER THE INPUT: true; the input reads as it did. -/
def outlineMeasuresSpec : ChangeSpec := { name := "outlineMeasures", fn := fun _ => fun
  | [d1, d2, d3] => { results := [.lit (.bool true)], args := [d1, d2, d3] }
  | _ => none }
def outlineMeasuresRow : OpenClaim := { program := "ytimehkeaeffcaaa", sum := "4721fc6c0e961cd6a1353b58fad6c16c04e8f51c9395222190c8acc5bc5867a0", func := "pantoscope/pantoscopelaw01.OutlineMeasures", spec := "outlineMeasures", unfollowed := true, recurses := true, apart := false }
def OutlineMeasuresSaid : Prop := outlineMeasuresRow.holds Try.pinned (OpenSpec.ofChange outlineMeasuresSpec)

/-- ITS FALSE NEIGHBOUR: 'it returns false'. Refute it at one input. -/
def outlineMeasuresWrong : ChangeSpec := { name := "outlineMeasures", fn := fun _ => fun
  | [d1, d2, d3] => { results := [.lit (.bool false)], args := [d1, d2, d3] }
  | _ => none }
def OutlineMeasuresWrongFalsely : Prop := outlineMeasuresRow.holds Try.pinned (OpenSpec.ofChange outlineMeasuresWrong)

/-- 'pantoscopelaw01.OutlineNests': WHATEVER THE INPUT: true; the input reads as it did. -/
def outlineNestsSpec : ChangeSpec := { name := "outlineNests", fn := fun _ => fun
  | [d1, d2, d3, d4] => { results := [.lit (.bool true)], args := [d1, d2, d3, d4] }
  | _ => none }
def outlineNestsRow : OpenClaim := { program := "ytimehkeaeffcaaa", sum := "4721fc6c0e961cd6a1353b58fad6c16c04e8f51c9395222190c8acc5bc5867a0", func := "pantoscope/pantoscopelaw01.OutlineNests", spec := "outlineNests", unfollowed := true, recurses := true, apart := false }
def OutlineNestsSaid : Prop := outlineNestsRow.holds Try.pinned (OpenSpec.ofChange outlineNestsSpec)

/-- ITS FALSE NEIGHBOUR: 'it returns false'. Refute it at one input. -/
def outlineNestsWrong : ChangeSpec := { name := "outlineNests", fn := fun _ => fun
  | [d1, d2, d3, d4] => { results := [.lit (.bool false)], args := [d1, d2, d3, d4] }
  | _ => none }
def OutlineNestsWrongFalsely : Prop := outlineNestsRow.holds Try.pinned (OpenSpec.ofChange outlineNestsWrong)

/-- 'pantoscopelaw01.OutlineHolds': WHATEVER THE INPUT: true; the input reads as it did. -/
def outlineHoldsSpec : ChangeSpec := { name := "outlineHolds", fn := fun _ => fun
  | [d1, d2, d3, d4, d5] => { results := [.lit (.bool true)], args := [d1, d2, d3, d4, d5] }
  | _ => none }
def outlineHoldsRow : OpenClaim := { program := "ytimehkeaeffcaaa", sum := "4721fc6c0e961cd6a1353b58fad6c16c04e8f51c9395222190c8acc5bc5867a0", func := "pantoscope/pantoscopelaw01.OutlineHolds", spec := "outlineHolds", unfollowed := true, recurses := true, apart := false }
def OutlineHoldsSaid : Prop := outlineHoldsRow.holds Try.pinned (OpenSpec.ofChange outlineHoldsSpec)

/-- ITS FALSE NEIGHBOUR: 'it returns false'. Refute it at one input. -/
def outlineHoldsWrong : ChangeSpec := { name := "outlineHolds", fn := fun _ => fun
  | [d1, d2, d3, d4, d5] => { results := [.lit (.bool false)], args := [d1, d2, d3, d4, d5] }
  | _ => none }
def OutlineHoldsWrongFalsely : Prop := outlineHoldsRow.holds Try.pinned (OpenSpec.ofChange outlineHoldsWrong)

/-- 'pantoscopelaw01.OutlineForms': WHATEVER THE INPUT: true; the input reads as it did. -/
def outlineFormsSpec : ChangeSpec := { name := "outlineForms", fn := fun _ => fun
  | [d1, d2] => { results := [.lit (.bool true)], args := [d1, d2] }
  | _ => none }
def outlineFormsRow : OpenClaim := { program := "ytimehkeaeffcaaa", sum := "4721fc6c0e961cd6a1353b58fad6c16c04e8f51c9395222190c8acc5bc5867a0", func := "pantoscope/pantoscopelaw01.OutlineForms", spec := "outlineForms", unfollowed := true, recurses := true, apart := false }
def OutlineFormsSaid : Prop := outlineFormsRow.holds Try.pinned (OpenSpec.ofChange outlineFormsSpec)

/-- ITS FALSE NEIGHBOUR: 'it returns false'. Refute it at one input. -/
def outlineFormsWrong : ChangeSpec := { name := "outlineForms", fn := fun _ => fun
  | [d1, d2] => { results := [.lit (.bool false)], args := [d1, d2] }
  | _ => none }
def OutlineFormsWrongFalsely : Prop := outlineFormsRow.holds Try.pinned (OpenSpec.ofChange outlineFormsWrong)

/-- 'pantoscopelaw01.OutlineSums': WHATEVER THE INPUT: true; the input reads as it did. -/
def outlineSumsSpec : ChangeSpec := { name := "outlineSums", fn := fun _ => fun
  | [d1, d2] => { results := [.lit (.bool true)], args := [d1, d2] }
  | _ => none }
def outlineSumsRow : OpenClaim := { program := "ytimehkeaeffcaaa", sum := "4721fc6c0e961cd6a1353b58fad6c16c04e8f51c9395222190c8acc5bc5867a0", func := "pantoscope/pantoscopelaw01.OutlineSums", spec := "outlineSums", unfollowed := true, recurses := true, apart := false }
def OutlineSumsSaid : Prop := outlineSumsRow.holds Try.pinned (OpenSpec.ofChange outlineSumsSpec)

/-- ITS FALSE NEIGHBOUR: 'it returns false'. Refute it at one input. -/
def outlineSumsWrong : ChangeSpec := { name := "outlineSums", fn := fun _ => fun
  | [d1, d2] => { results := [.lit (.bool false)], args := [d1, d2] }
  | _ => none }
def OutlineSumsWrongFalsely : Prop := outlineSumsRow.holds Try.pinned (OpenSpec.ofChange outlineSumsWrong)

/-- 'pantoscopelaw01.OutlineBoxes': WHATEVER THE INPUT: true; the input reads as it did. -/
def outlineBoxesSpec : ChangeSpec := { name := "outlineBoxes", fn := fun _ => fun
  | [d] => { results := [.lit (.bool true)], args := [d] }
  | _ => none }
def outlineBoxesRow : OpenClaim := { program := "ytimehkeaeffcaaa", sum := "4721fc6c0e961cd6a1353b58fad6c16c04e8f51c9395222190c8acc5bc5867a0", func := "pantoscope/pantoscopelaw01.OutlineBoxes", spec := "outlineBoxes", unfollowed := true, recurses := true, apart := false }
def OutlineBoxesSaid : Prop := outlineBoxesRow.holds Try.pinned (OpenSpec.ofChange outlineBoxesSpec)

/-- ITS FALSE NEIGHBOUR: 'it returns false'. Refute it at one input. -/
def outlineBoxesWrong : ChangeSpec := { name := "outlineBoxes", fn := fun _ => fun
  | [d] => { results := [.lit (.bool false)], args := [d] }
  | _ => none }
def OutlineBoxesWrongFalsely : Prop := outlineBoxesRow.holds Try.pinned (OpenSpec.ofChange outlineBoxesWrong)

/-- 'pantoscopelaw01.OutlineMoves': WHATEVER THE INPUT: true; the input reads as it did. -/
def outlineMovesSpec : ChangeSpec := { name := "outlineMoves", fn := fun _ => fun
  | [d1, d2, d3] => { results := [.lit (.bool true)], args := [d1, d2, d3] }
  | _ => none }
def outlineMovesRow : OpenClaim := { program := "ytimehkeaeffcaaa", sum := "4721fc6c0e961cd6a1353b58fad6c16c04e8f51c9395222190c8acc5bc5867a0", func := "pantoscope/pantoscopelaw01.OutlineMoves", spec := "outlineMoves", unfollowed := true, recurses := true, apart := false }
def OutlineMovesSaid : Prop := outlineMovesRow.holds Try.pinned (OpenSpec.ofChange outlineMovesSpec)

/-- ITS FALSE NEIGHBOUR: 'it returns false'. Refute it at one input. -/
def outlineMovesWrong : ChangeSpec := { name := "outlineMoves", fn := fun _ => fun
  | [d1, d2, d3] => { results := [.lit (.bool false)], args := [d1, d2, d3] }
  | _ => none }
def OutlineMovesWrongFalsely : Prop := outlineMovesRow.holds Try.pinned (OpenSpec.ofChange outlineMovesWrong)

/-- 'pantoscopelaw01.OutlineAdds': WHATEVER THE INPUT: true; the input reads as it did. -/
def outlineAddsSpec : ChangeSpec := { name := "outlineAdds", fn := fun _ => fun
  | [d1, d2, d3, d4] => { results := [.lit (.bool true)], args := [d1, d2, d3, d4] }
  | _ => none }
def outlineAddsRow : OpenClaim := { program := "ytimehkeaeffcaaa", sum := "4721fc6c0e961cd6a1353b58fad6c16c04e8f51c9395222190c8acc5bc5867a0", func := "pantoscope/pantoscopelaw01.OutlineAdds", spec := "outlineAdds", unfollowed := true, recurses := true, apart := false }
def OutlineAddsSaid : Prop := outlineAddsRow.holds Try.pinned (OpenSpec.ofChange outlineAddsSpec)

/-- ITS FALSE NEIGHBOUR: 'it returns false'. Refute it at one input. -/
def outlineAddsWrong : ChangeSpec := { name := "outlineAdds", fn := fun _ => fun
  | [d1, d2, d3, d4] => { results := [.lit (.bool false)], args := [d1, d2, d3, d4] }
  | _ => none }
def OutlineAddsWrongFalsely : Prop := outlineAddsRow.holds Try.pinned (OpenSpec.ofChange outlineAddsWrong)

/-- 'pantoscopelaw01.OutlineCentres': WHATEVER THE INPUT: true; the input reads as it did. -/
def outlineCentresSpec : ChangeSpec := { name := "outlineCentres", fn := fun _ => fun
  | [d] => { results := [.lit (.bool true)], args := [d] }
  | _ => none }
def outlineCentresRow : OpenClaim := { program := "ytimehkeaeffcaaa", sum := "4721fc6c0e961cd6a1353b58fad6c16c04e8f51c9395222190c8acc5bc5867a0", func := "pantoscope/pantoscopelaw01.OutlineCentres", spec := "outlineCentres", unfollowed := true, recurses := true, apart := false }
def OutlineCentresSaid : Prop := outlineCentresRow.holds Try.pinned (OpenSpec.ofChange outlineCentresSpec)

/-- ITS FALSE NEIGHBOUR: 'it returns false'. Refute it at one input. -/
def outlineCentresWrong : ChangeSpec := { name := "outlineCentres", fn := fun _ => fun
  | [d] => { results := [.lit (.bool false)], args := [d] }
  | _ => none }
def OutlineCentresWrongFalsely : Prop := outlineCentresRow.holds Try.pinned (OpenSpec.ofChange outlineCentresWrong)

/-- 'pantoscopelaw01.OutlineBack': WHATEVER THE INPUT: true; the input reads as it did. -/
def outlineBackSpec : ChangeSpec := { name := "outlineBack", fn := fun _ => fun
  | [d1, d2] => { results := [.lit (.bool true)], args := [d1, d2] }
  | _ => none }
def outlineBackRow : OpenClaim := { program := "ytimehkeaeffcaaa", sum := "4721fc6c0e961cd6a1353b58fad6c16c04e8f51c9395222190c8acc5bc5867a0", func := "pantoscope/pantoscopelaw01.OutlineBack", spec := "outlineBack", unfollowed := true, recurses := true, apart := false }
def OutlineBackSaid : Prop := outlineBackRow.holds Try.pinned (OpenSpec.ofChange outlineBackSpec)

/-- ITS FALSE NEIGHBOUR: 'it returns false'. Refute it at one input. -/
def outlineBackWrong : ChangeSpec := { name := "outlineBack", fn := fun _ => fun
  | [d1, d2] => { results := [.lit (.bool false)], args := [d1, d2] }
  | _ => none }
def OutlineBackWrongFalsely : Prop := outlineBackRow.holds Try.pinned (OpenSpec.ofChange outlineBackWrong)

/- THE SECOND FORM. 'bulk': how many values and letters a reading holds, each counted each time it is reached (what is shared counts as often as it is met; a slice's spare places count too). A statement '..UptoSaid' is the law's where the arguments, and the package variables that the reading takes, are together of bulk at most 1048576: NARROWER than '..Said'. Prove '..Said' where nothing that the law and all that it calls make is longer than what came in: it says more and counts as full. Else prove '..UptoSaid'. A law counts once. -/
mutual
def uptoBulk {H : Type} : DataW H → Nat
  | .lit (.string bytes) => bytes.length + 1
  | .lit _ => 1
  | .nil => 1
  | .ptr d => uptoBulk d + 1
  | .slice elems spare => uptoBulkAll elems + uptoBulkAll spare + 1
  | .agg parts => uptoBulkAll parts + 1
  | .iface _ d => uptoBulk d + 1
  | .map entries => uptoBulkEntries entries + 1
  | .held _ => 1
def uptoBulkAll {H : Type} : List (DataW H) → Nat
  | [] => 0
  | d :: r => uptoBulk d + uptoBulkAll r
def uptoBulkEntries {H : Type} : List (Lit × DataW H) → Nat
  | [] => 0
  | x :: r => uptoBulkEntry x + uptoBulkEntries r
def uptoBulkEntry {H : Type} : Lit × DataW H → Nat
  | (.string bytes, d) => bytes.length + uptoBulk d + 1
  | (_, d) => uptoBulk d + 1
 end
def uptoSmall : (H : Type) → List (DataW H) → Bool := fun _ ds => decide (uptoBulkAll ds ≤ 1048576)
def OpenSpec.upto (s : _root_.Go.ChangeSpec) : _root_.Go.OpenSpec := { _root_.Go.OpenSpec.ofChange s with cond := some uptoSmall }

/-- 'pantoscopelaw01.OutlineSeats', WHERE WHAT IT READS IS OF BULK AT MOST 1048576: true; the input reads as it did. -/
def outlineSeatsUptoRow : OpenClaim := { program := "ytimehkeaeffcaaa", sum := "4721fc6c0e961cd6a1353b58fad6c16c04e8f51c9395222190c8acc5bc5867a0", func := "pantoscope/pantoscopelaw01.OutlineSeats", spec := "outlineSeats", unfollowed := true, recurses := true, apart := false, narrowed := true }
def OutlineSeatsUptoSaid : Prop := outlineSeatsUptoRow.holds Try.pinned (OpenSpec.upto outlineSeatsSpec)

/-- 'pantoscopelaw01.OutlineMeasures', WHERE WHAT IT READS IS OF BULK AT MOST 1048576: true; the input reads as it did. -/
def outlineMeasuresUptoRow : OpenClaim := { program := "ytimehkeaeffcaaa", sum := "4721fc6c0e961cd6a1353b58fad6c16c04e8f51c9395222190c8acc5bc5867a0", func := "pantoscope/pantoscopelaw01.OutlineMeasures", spec := "outlineMeasures", unfollowed := true, recurses := true, apart := false, narrowed := true }
def OutlineMeasuresUptoSaid : Prop := outlineMeasuresUptoRow.holds Try.pinned (OpenSpec.upto outlineMeasuresSpec)

/-- 'pantoscopelaw01.OutlineNests', WHERE WHAT IT READS IS OF BULK AT MOST 1048576: true; the input reads as it did. -/
def outlineNestsUptoRow : OpenClaim := { program := "ytimehkeaeffcaaa", sum := "4721fc6c0e961cd6a1353b58fad6c16c04e8f51c9395222190c8acc5bc5867a0", func := "pantoscope/pantoscopelaw01.OutlineNests", spec := "outlineNests", unfollowed := true, recurses := true, apart := false, narrowed := true }
def OutlineNestsUptoSaid : Prop := outlineNestsUptoRow.holds Try.pinned (OpenSpec.upto outlineNestsSpec)

/-- 'pantoscopelaw01.OutlineHolds', WHERE WHAT IT READS IS OF BULK AT MOST 1048576: true; the input reads as it did. -/
def outlineHoldsUptoRow : OpenClaim := { program := "ytimehkeaeffcaaa", sum := "4721fc6c0e961cd6a1353b58fad6c16c04e8f51c9395222190c8acc5bc5867a0", func := "pantoscope/pantoscopelaw01.OutlineHolds", spec := "outlineHolds", unfollowed := true, recurses := true, apart := false, narrowed := true }
def OutlineHoldsUptoSaid : Prop := outlineHoldsUptoRow.holds Try.pinned (OpenSpec.upto outlineHoldsSpec)

/-- 'pantoscopelaw01.OutlineForms', WHERE WHAT IT READS IS OF BULK AT MOST 1048576: true; the input reads as it did. -/
def outlineFormsUptoRow : OpenClaim := { program := "ytimehkeaeffcaaa", sum := "4721fc6c0e961cd6a1353b58fad6c16c04e8f51c9395222190c8acc5bc5867a0", func := "pantoscope/pantoscopelaw01.OutlineForms", spec := "outlineForms", unfollowed := true, recurses := true, apart := false, narrowed := true }
def OutlineFormsUptoSaid : Prop := outlineFormsUptoRow.holds Try.pinned (OpenSpec.upto outlineFormsSpec)

/-- 'pantoscopelaw01.OutlineSums', WHERE WHAT IT READS IS OF BULK AT MOST 1048576: true; the input reads as it did. -/
def outlineSumsUptoRow : OpenClaim := { program := "ytimehkeaeffcaaa", sum := "4721fc6c0e961cd6a1353b58fad6c16c04e8f51c9395222190c8acc5bc5867a0", func := "pantoscope/pantoscopelaw01.OutlineSums", spec := "outlineSums", unfollowed := true, recurses := true, apart := false, narrowed := true }
def OutlineSumsUptoSaid : Prop := outlineSumsUptoRow.holds Try.pinned (OpenSpec.upto outlineSumsSpec)

/-- 'pantoscopelaw01.OutlineBoxes', WHERE WHAT IT READS IS OF BULK AT MOST 1048576: true; the input reads as it did. -/
def outlineBoxesUptoRow : OpenClaim := { program := "ytimehkeaeffcaaa", sum := "4721fc6c0e961cd6a1353b58fad6c16c04e8f51c9395222190c8acc5bc5867a0", func := "pantoscope/pantoscopelaw01.OutlineBoxes", spec := "outlineBoxes", unfollowed := true, recurses := true, apart := false, narrowed := true }
def OutlineBoxesUptoSaid : Prop := outlineBoxesUptoRow.holds Try.pinned (OpenSpec.upto outlineBoxesSpec)

/-- 'pantoscopelaw01.OutlineMoves', WHERE WHAT IT READS IS OF BULK AT MOST 1048576: true; the input reads as it did. -/
def outlineMovesUptoRow : OpenClaim := { program := "ytimehkeaeffcaaa", sum := "4721fc6c0e961cd6a1353b58fad6c16c04e8f51c9395222190c8acc5bc5867a0", func := "pantoscope/pantoscopelaw01.OutlineMoves", spec := "outlineMoves", unfollowed := true, recurses := true, apart := false, narrowed := true }
def OutlineMovesUptoSaid : Prop := outlineMovesUptoRow.holds Try.pinned (OpenSpec.upto outlineMovesSpec)

/-- 'pantoscopelaw01.OutlineAdds', WHERE WHAT IT READS IS OF BULK AT MOST 1048576: true; the input reads as it did. -/
def outlineAddsUptoRow : OpenClaim := { program := "ytimehkeaeffcaaa", sum := "4721fc6c0e961cd6a1353b58fad6c16c04e8f51c9395222190c8acc5bc5867a0", func := "pantoscope/pantoscopelaw01.OutlineAdds", spec := "outlineAdds", unfollowed := true, recurses := true, apart := false, narrowed := true }
def OutlineAddsUptoSaid : Prop := outlineAddsUptoRow.holds Try.pinned (OpenSpec.upto outlineAddsSpec)

/-- 'pantoscopelaw01.OutlineCentres', WHERE WHAT IT READS IS OF BULK AT MOST 1048576: true; the input reads as it did. -/
def outlineCentresUptoRow : OpenClaim := { program := "ytimehkeaeffcaaa", sum := "4721fc6c0e961cd6a1353b58fad6c16c04e8f51c9395222190c8acc5bc5867a0", func := "pantoscope/pantoscopelaw01.OutlineCentres", spec := "outlineCentres", unfollowed := true, recurses := true, apart := false, narrowed := true }
def OutlineCentresUptoSaid : Prop := outlineCentresUptoRow.holds Try.pinned (OpenSpec.upto outlineCentresSpec)

/-- 'pantoscopelaw01.OutlineBack', WHERE WHAT IT READS IS OF BULK AT MOST 1048576: true; the input reads as it did. -/
def outlineBackUptoRow : OpenClaim := { program := "ytimehkeaeffcaaa", sum := "4721fc6c0e961cd6a1353b58fad6c16c04e8f51c9395222190c8acc5bc5867a0", func := "pantoscope/pantoscopelaw01.OutlineBack", spec := "outlineBack", unfollowed := true, recurses := true, apart := false, narrowed := true }
def OutlineBackUptoSaid : Prop := outlineBackUptoRow.holds Try.pinned (OpenSpec.upto outlineBackSpec)

end Rows
end Go.Proofs.Ytimehkeaeffcaaa

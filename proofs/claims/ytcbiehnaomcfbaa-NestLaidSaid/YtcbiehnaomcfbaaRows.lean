/-
  No cell of these rows narrows 'for every input' (looked for: loops, veiled, ifaces, maps, wideKeys, modest, calm, conditions, laid).
  DERIVED. THE GIVEN ROWS OF THIS SEAT. 10 by the template 'for every input the law returns true; each argument reads behind the call as it read before'; 0 by the template 'total and deterministic' (their statements: YtcbiehnaomcfbaaTotals.lean).
  GIVEN WITH THE SEED: the statements are not yours to turn. If you find one false, say at which input.
  Laid BY PROGRAM, IN A SANDBOX (cutbox-rows.mjs): the forced cells as the released guide's own fill.sh prints them over the translation 3c784a0110a95a0d… (all of the seat's roots in one cut). By AI agents, Wed Nov 11 2026. No macro, syntax, notation, axiom, sorry.
-/
import Derived.Test.YtcbiehnaomcfbaaChecked
import GoSem.Claim
import GoSem.ClaimJoined
import GoSem.ClaimMapViews
import Derived.JoinedTies
import Derived.KernelRfl
namespace Go.Proofs.Ytcbiehnaomcfbaa
/- THE CELL 'sum', in the pinned program and in every row, IS THE sha256 OF THE DUMP (.gsa) THAT YtcbiehnaomcfbaaProg.lean LOADS. Nothing in Lean hashes anything: it is a label: what it is worth is what the hold of that sum in a sandbox is worth. -/
noncomputable def Try.pinned : Pinned := { name := "ytcbiehnaomcfbaa", sum := "3c784a0110a95a0da8ed55cdd817a8137de57ccedda01691b0104b5aab1984c5", checked := Try.checked }
namespace Rows
def none {H : Type} : Left H := { results := [], args := [] }

/-- 'pantoscopelaw07.NestAparts': WHATEVER THE INPUT: true; the input reads as it did. -/
def nestApartsSpec : ChangeSpec := { name := "nestAparts", fn := fun _ => fun
  | [d1, d2, d3, d4, d5] => { results := [.lit (.bool true)], args := [d1, d2, d3, d4, d5] }
  | _ => none }
def nestApartsRow : OpenClaim := { program := "ytcbiehnaomcfbaa", sum := "3c784a0110a95a0da8ed55cdd817a8137de57ccedda01691b0104b5aab1984c5", func := "pantoscope/pantoscopelaw07.NestAparts", spec := "nestAparts", unfollowed := true, recurses := true, apart := false }
def NestApartsSaid : Prop := nestApartsRow.holds Try.pinned (OpenSpec.ofChange nestApartsSpec)

/-- ITS FALSE NEIGHBOUR: 'it returns false'. Refute it at one input. -/
def nestApartsWrong : ChangeSpec := { name := "nestAparts", fn := fun _ => fun
  | [d1, d2, d3, d4, d5] => { results := [.lit (.bool false)], args := [d1, d2, d3, d4, d5] }
  | _ => none }
def NestApartsWrongFalsely : Prop := nestApartsRow.holds Try.pinned (OpenSpec.ofChange nestApartsWrong)

/-- 'pantoscopelaw07.NestGaps': WHATEVER THE INPUT: true; the input reads as it did. -/
def nestGapsSpec : ChangeSpec := { name := "nestGaps", fn := fun _ => fun
  | [d1, d2, d3, d4] => { results := [.lit (.bool true)], args := [d1, d2, d3, d4] }
  | _ => none }
def nestGapsRow : OpenClaim := { program := "ytcbiehnaomcfbaa", sum := "3c784a0110a95a0da8ed55cdd817a8137de57ccedda01691b0104b5aab1984c5", func := "pantoscope/pantoscopelaw07.NestGaps", spec := "nestGaps", unfollowed := true, recurses := true, apart := false }
def NestGapsSaid : Prop := nestGapsRow.holds Try.pinned (OpenSpec.ofChange nestGapsSpec)

/-- ITS FALSE NEIGHBOUR: 'it returns false'. Refute it at one input. -/
def nestGapsWrong : ChangeSpec := { name := "nestGaps", fn := fun _ => fun
  | [d1, d2, d3, d4] => { results := [.lit (.bool false)], args := [d1, d2, d3, d4] }
  | _ => none }
def NestGapsWrongFalsely : Prop := nestGapsRow.holds Try.pinned (OpenSpec.ofChange nestGapsWrong)

/-- 'pantoscopelaw07.NestRows': WHATEVER THE INPUT: true; the input reads as it did. -/
def nestRowsSpec : ChangeSpec := { name := "nestRows", fn := fun _ => fun
  | [d1, d2] => { results := [.lit (.bool true)], args := [d1, d2] }
  | _ => none }
def nestRowsRow : OpenClaim := { program := "ytcbiehnaomcfbaa", sum := "3c784a0110a95a0da8ed55cdd817a8137de57ccedda01691b0104b5aab1984c5", func := "pantoscope/pantoscopelaw07.NestRows", spec := "nestRows", unfollowed := true, recurses := true, apart := false }
def NestRowsSaid : Prop := nestRowsRow.holds Try.pinned (OpenSpec.ofChange nestRowsSpec)

/-- ITS FALSE NEIGHBOUR: 'it returns false'. Refute it at one input. -/
def nestRowsWrong : ChangeSpec := { name := "nestRows", fn := fun _ => fun
  | [d1, d2] => { results := [.lit (.bool false)], args := [d1, d2] }
  | _ => none }
def NestRowsWrongFalsely : Prop := nestRowsRow.holds Try.pinned (OpenSpec.ofChange nestRowsWrong)

/-- 'pantoscopelaw07.NestLies': WHATEVER THE INPUT: true; the input reads as it did. -/
def nestLiesSpec : ChangeSpec := { name := "nestLies", fn := fun _ => fun
  | [d] => { results := [.lit (.bool true)], args := [d] }
  | _ => none }
def nestLiesRow : OpenClaim := { program := "ytcbiehnaomcfbaa", sum := "3c784a0110a95a0da8ed55cdd817a8137de57ccedda01691b0104b5aab1984c5", func := "pantoscope/pantoscopelaw07.NestLies", spec := "nestLies", unfollowed := true, recurses := true, apart := false }
def NestLiesSaid : Prop := nestLiesRow.holds Try.pinned (OpenSpec.ofChange nestLiesSpec)

/-- ITS FALSE NEIGHBOUR: 'it returns false'. Refute it at one input. -/
def nestLiesWrong : ChangeSpec := { name := "nestLies", fn := fun _ => fun
  | [d] => { results := [.lit (.bool false)], args := [d] }
  | _ => none }
def NestLiesWrongFalsely : Prop := nestLiesRow.holds Try.pinned (OpenSpec.ofChange nestLiesWrong)

/-- 'pantoscopelaw07.NestDrops': WHATEVER THE INPUT: true; the input reads as it did. -/
def nestDropsSpec : ChangeSpec := { name := "nestDrops", fn := fun _ => fun
  | [d1, d2] => { results := [.lit (.bool true)], args := [d1, d2] }
  | _ => none }
def nestDropsRow : OpenClaim := { program := "ytcbiehnaomcfbaa", sum := "3c784a0110a95a0da8ed55cdd817a8137de57ccedda01691b0104b5aab1984c5", func := "pantoscope/pantoscopelaw07.NestDrops", spec := "nestDrops", unfollowed := true, recurses := true, apart := false }
def NestDropsSaid : Prop := nestDropsRow.holds Try.pinned (OpenSpec.ofChange nestDropsSpec)

/-- ITS FALSE NEIGHBOUR: 'it returns false'. Refute it at one input. -/
def nestDropsWrong : ChangeSpec := { name := "nestDrops", fn := fun _ => fun
  | [d1, d2] => { results := [.lit (.bool false)], args := [d1, d2] }
  | _ => none }
def NestDropsWrongFalsely : Prop := nestDropsRow.holds Try.pinned (OpenSpec.ofChange nestDropsWrong)

/-- 'pantoscopelaw07.NestFalls': WHATEVER THE INPUT: true; the input reads as it did. -/
def nestFallsSpec : ChangeSpec := { name := "nestFalls", fn := fun _ => fun
  | [d1, d2] => { results := [.lit (.bool true)], args := [d1, d2] }
  | _ => none }
def nestFallsRow : OpenClaim := { program := "ytcbiehnaomcfbaa", sum := "3c784a0110a95a0da8ed55cdd817a8137de57ccedda01691b0104b5aab1984c5", func := "pantoscope/pantoscopelaw07.NestFalls", spec := "nestFalls", unfollowed := true, recurses := true, apart := false }
def NestFallsSaid : Prop := nestFallsRow.holds Try.pinned (OpenSpec.ofChange nestFallsSpec)

/-- ITS FALSE NEIGHBOUR: 'it returns false'. Refute it at one input. -/
def nestFallsWrong : ChangeSpec := { name := "nestFalls", fn := fun _ => fun
  | [d1, d2] => { results := [.lit (.bool false)], args := [d1, d2] }
  | _ => none }
def NestFallsWrongFalsely : Prop := nestFallsRow.holds Try.pinned (OpenSpec.ofChange nestFallsWrong)

/-- 'pantoscopelaw07.NestChecks': WHATEVER THE INPUT: true; the input reads as it did. -/
def nestChecksSpec : ChangeSpec := { name := "nestChecks", fn := fun _ => fun
  | [d] => { results := [.lit (.bool true)], args := [d] }
  | _ => none }
def nestChecksRow : OpenClaim := { program := "ytcbiehnaomcfbaa", sum := "3c784a0110a95a0da8ed55cdd817a8137de57ccedda01691b0104b5aab1984c5", func := "pantoscope/pantoscopelaw07.NestChecks", spec := "nestChecks", unfollowed := true, recurses := true, apart := false }
def NestChecksSaid : Prop := nestChecksRow.holds Try.pinned (OpenSpec.ofChange nestChecksSpec)

/-- ITS FALSE NEIGHBOUR: 'it returns false'. Refute it at one input. -/
def nestChecksWrong : ChangeSpec := { name := "nestChecks", fn := fun _ => fun
  | [d] => { results := [.lit (.bool false)], args := [d] }
  | _ => none }
def NestChecksWrongFalsely : Prop := nestChecksRow.holds Try.pinned (OpenSpec.ofChange nestChecksWrong)

/-- 'pantoscopelaw07.NestLaid': WHATEVER THE INPUT: true; the input reads as it did. -/
def nestLaidSpec : ChangeSpec := { name := "nestLaid", fn := fun _ => fun
  | [d1, d2, d3] => { results := [.lit (.bool true)], args := [d1, d2, d3] }
  | _ => none }
def nestLaidRow : OpenClaim := { program := "ytcbiehnaomcfbaa", sum := "3c784a0110a95a0da8ed55cdd817a8137de57ccedda01691b0104b5aab1984c5", func := "pantoscope/pantoscopelaw07.NestLaid", spec := "nestLaid", unfollowed := true, recurses := true, apart := false }
def NestLaidSaid : Prop := nestLaidRow.holds Try.pinned (OpenSpec.ofChange nestLaidSpec)

/-- ITS FALSE NEIGHBOUR: 'it returns false'. Refute it at one input. -/
def nestLaidWrong : ChangeSpec := { name := "nestLaid", fn := fun _ => fun
  | [d1, d2, d3] => { results := [.lit (.bool false)], args := [d1, d2, d3] }
  | _ => none }
def NestLaidWrongFalsely : Prop := nestLaidRow.holds Try.pinned (OpenSpec.ofChange nestLaidWrong)

/-- 'pantoscopelaw07.NestMirrors': WHATEVER THE INPUT: true; the input reads as it did. -/
def nestMirrorsSpec : ChangeSpec := { name := "nestMirrors", fn := fun _ => fun
  | [d] => { results := [.lit (.bool true)], args := [d] }
  | _ => none }
def nestMirrorsRow : OpenClaim := { program := "ytcbiehnaomcfbaa", sum := "3c784a0110a95a0da8ed55cdd817a8137de57ccedda01691b0104b5aab1984c5", func := "pantoscope/pantoscopelaw07.NestMirrors", spec := "nestMirrors", unfollowed := true, recurses := true, apart := false }
def NestMirrorsSaid : Prop := nestMirrorsRow.holds Try.pinned (OpenSpec.ofChange nestMirrorsSpec)

/-- ITS FALSE NEIGHBOUR: 'it returns false'. Refute it at one input. -/
def nestMirrorsWrong : ChangeSpec := { name := "nestMirrors", fn := fun _ => fun
  | [d] => { results := [.lit (.bool false)], args := [d] }
  | _ => none }
def NestMirrorsWrongFalsely : Prop := nestMirrorsRow.holds Try.pinned (OpenSpec.ofChange nestMirrorsWrong)

/-- 'pantoscopelaw07.NestRight': WHATEVER THE INPUT: true; the input reads as it did. -/
def nestRightSpec : ChangeSpec := { name := "nestRight", fn := fun _ => fun
  | [d1, d2] => { results := [.lit (.bool true)], args := [d1, d2] }
  | _ => none }
def nestRightRow : OpenClaim := { program := "ytcbiehnaomcfbaa", sum := "3c784a0110a95a0da8ed55cdd817a8137de57ccedda01691b0104b5aab1984c5", func := "pantoscope/pantoscopelaw07.NestRight", spec := "nestRight", unfollowed := true, recurses := true, apart := false }
def NestRightSaid : Prop := nestRightRow.holds Try.pinned (OpenSpec.ofChange nestRightSpec)

/-- ITS FALSE NEIGHBOUR: 'it returns false'. Refute it at one input. -/
def nestRightWrong : ChangeSpec := { name := "nestRight", fn := fun _ => fun
  | [d1, d2] => { results := [.lit (.bool false)], args := [d1, d2] }
  | _ => none }
def NestRightWrongFalsely : Prop := nestRightRow.holds Try.pinned (OpenSpec.ofChange nestRightWrong)

/- THE SECOND FORM. 'bulk': how many values and letters a reading holds, each counted each time it is reached (what is shared counts as often as it is met; a slice's spare places count too). A statement '..UptoSaid' is the law's where the arguments, and the package variables that the reading takes, are together of bulk at most 1048576: NARROWER than '..Said'. Prove '..Said' where nothing that the law and all that it calls make is longer than what came in: it says more and counts as full. Else prove '..UptoSaid'. A law counts once. -/
mutual
def uptoBulk {H : Type} : DataW H → Nat
  | .lit (.string bytes) => bytes.length + 1
  | .lit _ => 1
  | .nil => 1
  | .ptr d => uptoBulk d + 1
  | .slice elems spare => uptoBulkAll elems + uptoBulkAll spare + 1
  | .agg parts => uptoBulkAll parts + 1
  | .iface _ d => uptoBulk d + 1
  | .map entries => uptoBulkEntries entries + 1
  | .held _ => 1
def uptoBulkAll {H : Type} : List (DataW H) → Nat
  | [] => 0
  | d :: r => uptoBulk d + uptoBulkAll r
def uptoBulkEntries {H : Type} : List (Lit × DataW H) → Nat
  | [] => 0
  | x :: r => uptoBulkEntry x + uptoBulkEntries r
def uptoBulkEntry {H : Type} : Lit × DataW H → Nat
  | (.string bytes, d) => bytes.length + uptoBulk d + 1
  | (_, d) => uptoBulk d + 1
 end
def uptoSmall : (H : Type) → List (DataW H) → Bool := fun _ ds => decide (uptoBulkAll ds ≤ 1048576)
def OpenSpec.upto (s : _root_.Go.ChangeSpec) : _root_.Go.OpenSpec := { _root_.Go.OpenSpec.ofChange s with cond := some uptoSmall }

/-- 'pantoscopelaw07.NestAparts', WHERE WHAT IT READS IS OF BULK AT MOST 1048576: true; the input reads as it did. -/
def nestApartsUptoRow : OpenClaim := { program := "ytcbiehnaomcfbaa", sum := "3c784a0110a95a0da8ed55cdd817a8137de57ccedda01691b0104b5aab1984c5", func := "pantoscope/pantoscopelaw07.NestAparts", spec := "nestAparts", unfollowed := true, recurses := true, apart := false, narrowed := true }
def NestApartsUptoSaid : Prop := nestApartsUptoRow.holds Try.pinned (OpenSpec.upto nestApartsSpec)

/-- 'pantoscopelaw07.NestGaps', WHERE WHAT IT READS IS OF BULK AT MOST 1048576: true; the input reads as it did. -/
def nestGapsUptoRow : OpenClaim := { program := "ytcbiehnaomcfbaa", sum := "3c784a0110a95a0da8ed55cdd817a8137de57ccedda01691b0104b5aab1984c5", func := "pantoscope/pantoscopelaw07.NestGaps", spec := "nestGaps", unfollowed := true, recurses := true, apart := false, narrowed := true }
def NestGapsUptoSaid : Prop := nestGapsUptoRow.holds Try.pinned (OpenSpec.upto nestGapsSpec)

/-- 'pantoscopelaw07.NestRows', WHERE WHAT IT READS IS OF BULK AT MOST 1048576: true; the input reads as it did. -/
def nestRowsUptoRow : OpenClaim := { program := "ytcbiehnaomcfbaa", sum := "3c784a0110a95a0da8ed55cdd817a8137de57ccedda01691b0104b5aab1984c5", func := "pantoscope/pantoscopelaw07.NestRows", spec := "nestRows", unfollowed := true, recurses := true, apart := false, narrowed := true }
def NestRowsUptoSaid : Prop := nestRowsUptoRow.holds Try.pinned (OpenSpec.upto nestRowsSpec)

/-- 'pantoscopelaw07.NestLies', WHERE WHAT IT READS IS OF BULK AT MOST 1048576: true; the input reads as it did. -/
def nestLiesUptoRow : OpenClaim := { program := "ytcbiehnaomcfbaa", sum := "3c784a0110a95a0da8ed55cdd817a8137de57ccedda01691b0104b5aab1984c5", func := "pantoscope/pantoscopelaw07.NestLies", spec := "nestLies", unfollowed := true, recurses := true, apart := false, narrowed := true }
def NestLiesUptoSaid : Prop := nestLiesUptoRow.holds Try.pinned (OpenSpec.upto nestLiesSpec)

/-- 'pantoscopelaw07.NestDrops', WHERE WHAT IT READS IS OF BULK AT MOST 1048576: true; the input reads as it did. -/
def nestDropsUptoRow : OpenClaim := { program := "ytcbiehnaomcfbaa", sum := "3c784a0110a95a0da8ed55cdd817a8137de57ccedda01691b0104b5aab1984c5", func := "pantoscope/pantoscopelaw07.NestDrops", spec := "nestDrops", unfollowed := true, recurses := true, apart := false, narrowed := true }
def NestDropsUptoSaid : Prop := nestDropsUptoRow.holds Try.pinned (OpenSpec.upto nestDropsSpec)

/-- 'pantoscopelaw07.NestFalls', WHERE WHAT IT READS IS OF BULK AT MOST 1048576: true; the input reads as it did. -/
def nestFallsUptoRow : OpenClaim := { program := "ytcbiehnaomcfbaa", sum := "3c784a0110a95a0da8ed55cdd817a8137de57ccedda01691b0104b5aab1984c5", func := "pantoscope/pantoscopelaw07.NestFalls", spec := "nestFalls", unfollowed := true, recurses := true, apart := false, narrowed := true }
def NestFallsUptoSaid : Prop := nestFallsUptoRow.holds Try.pinned (OpenSpec.upto nestFallsSpec)

/-- 'pantoscopelaw07.NestChecks', WHERE WHAT IT READS IS OF BULK AT MOST 1048576: true; the input reads as it did. -/
def nestChecksUptoRow : OpenClaim := { program := "ytcbiehnaomcfbaa", sum := "3c784a0110a95a0da8ed55cdd817a8137de57ccedda01691b0104b5aab1984c5", func := "pantoscope/pantoscopelaw07.NestChecks", spec := "nestChecks", unfollowed := true, recurses := true, apart := false, narrowed := true }
def NestChecksUptoSaid : Prop := nestChecksUptoRow.holds Try.pinned (OpenSpec.upto nestChecksSpec)

/-- 'pantoscopelaw07.NestLaid', WHERE WHAT IT READS IS OF BULK AT MOST 1048576: true; the input reads as it did. -/
def nestLaidUptoRow : OpenClaim := { program := "ytcbiehnaomcfbaa", sum := "3c784a0110a95a0da8ed55cdd817a8137de57ccedda01691b0104b5aab1984c5", func := "pantoscope/pantoscopelaw07.NestLaid", spec := "nestLaid", unfollowed := true, recurses := true, apart := false, narrowed := true }
def NestLaidUptoSaid : Prop := nestLaidUptoRow.holds Try.pinned (OpenSpec.upto nestLaidSpec)

/-- 'pantoscopelaw07.NestMirrors', WHERE WHAT IT READS IS OF BULK AT MOST 1048576: true; the input reads as it did. -/
def nestMirrorsUptoRow : OpenClaim := { program := "ytcbiehnaomcfbaa", sum := "3c784a0110a95a0da8ed55cdd817a8137de57ccedda01691b0104b5aab1984c5", func := "pantoscope/pantoscopelaw07.NestMirrors", spec := "nestMirrors", unfollowed := true, recurses := true, apart := false, narrowed := true }
def NestMirrorsUptoSaid : Prop := nestMirrorsUptoRow.holds Try.pinned (OpenSpec.upto nestMirrorsSpec)

/-- 'pantoscopelaw07.NestRight', WHERE WHAT IT READS IS OF BULK AT MOST 1048576: true; the input reads as it did. -/
def nestRightUptoRow : OpenClaim := { program := "ytcbiehnaomcfbaa", sum := "3c784a0110a95a0da8ed55cdd817a8137de57ccedda01691b0104b5aab1984c5", func := "pantoscope/pantoscopelaw07.NestRight", spec := "nestRight", unfollowed := true, recurses := true, apart := false, narrowed := true }
def NestRightUptoSaid : Prop := nestRightUptoRow.holds Try.pinned (OpenSpec.upto nestRightSpec)

end Rows
end Go.Proofs.Ytcbiehnaomcfbaa

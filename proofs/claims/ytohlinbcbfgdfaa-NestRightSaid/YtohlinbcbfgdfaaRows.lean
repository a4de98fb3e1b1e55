/-
  No cell of these rows narrows 'for every input' (looked for: loops, veiled, ifaces, maps, wideKeys, modest, calm, conditions, laid).
  DERIVED. THE GIVEN ROWS OF THIS SEAT. 3 by the template 'for every input the law returns true; each argument reads behind the call as it read before'; 0 by the template 'total and deterministic' (their statements: YtohlinbcbfgdfaaTotals.lean).
  GIVEN WITH THE SEED: the statements are not yours to turn. If you find one false, say at which input.
  Laid BY PROGRAM, IN A SANDBOX (cutbox-rows.mjs): the forced cells as the released guide's own fill.sh prints them over the translation 3b86e17c173a1d3a… (all of the seat's roots in one cut). By AI agents, Wed Nov 11 2026. No macro, syntax, notation, axiom, sorry.
-/
import Derived.Test.YtohlinbcbfgdfaaChecked
import GoSem.Claim
import GoSem.ClaimJoined
import GoSem.ClaimMapViews
import Derived.JoinedTies
import Derived.KernelRfl
namespace Go.Proofs.Ytohlinbcbfgdfaa
/- THE CELL 'sum', in the pinned program and in every row, IS THE sha256 OF THE DUMP (.gsa) THAT YtohlinbcbfgdfaaProg.lean LOADS. Nothing in Lean hashes anything: it is a label: what it is worth is what the hold of that sum in a sandbox is worth. -/
noncomputable def Try.pinned : Pinned := { name := "ytohlinbcbfgdfaa", sum := "3b86e17c173a1d3af8cdc570a7b52a76ead45eaf699cb21e6d3e803b1e969b75", checked := Try.checked }
namespace Rows
def none {H : Type} : Left H := { results := [], args := [] }

/-- 'pantoscopelaw07.NestMirrors': WHATEVER THE INPUT: true; the input reads as it did. -/
def nestMirrorsSpec : ChangeSpec := { name := "nestMirrors", fn := fun _ => fun
  | [d] => { results := [.lit (.bool true)], args := [d] }
  | _ => none }
def nestMirrorsRow : OpenClaim := { program := "ytohlinbcbfgdfaa", sum := "3b86e17c173a1d3af8cdc570a7b52a76ead45eaf699cb21e6d3e803b1e969b75", func := "pantoscope/pantoscopelaw07.NestMirrors", spec := "nestMirrors", unfollowed := true, recurses := true, apart := false }
def NestMirrorsSaid : Prop := nestMirrorsRow.holds Try.pinned (OpenSpec.ofChange nestMirrorsSpec)

/-- ITS FALSE NEIGHBOUR: 'it returns false'. Refute it at one input. -/
def nestMirrorsWrong : ChangeSpec := { name := "nestMirrors", fn := fun _ => fun
  | [d] => { results := [.lit (.bool false)], args := [d] }
  | _ => none }
def NestMirrorsWrongFalsely : Prop := nestMirrorsRow.holds Try.pinned (OpenSpec.ofChange nestMirrorsWrong)

/-- 'pantoscopelaw07.NestRight': WHATEVER THE INPUT: true; the input reads as it did. -/
def nestRightSpec : ChangeSpec := { name := "nestRight", fn := fun _ => fun
  | [d1, d2] => { results := [.lit (.bool true)], args := [d1, d2] }
  | _ => none }
def nestRightRow : OpenClaim := { program := "ytohlinbcbfgdfaa", sum := "3b86e17c173a1d3af8cdc570a7b52a76ead45eaf699cb21e6d3e803b1e969b75", func := "pantoscope/pantoscopelaw07.NestRight", spec := "nestRight", unfollowed := true, recurses := true, apart := false }
def NestRightSaid : Prop := nestRightRow.holds Try.pinned (OpenSpec.ofChange nestRightSpec)

/-- ITS FALSE NEIGHBOUR: 'it returns false'. Refute it at one input. -/
def nestRightWrong : ChangeSpec := { name := "nestRight", fn := fun _ => fun
  | [d1, d2] => { results := [.lit (.bool false)], args := [d1, d2] }
  | _ => none }
def NestRightWrongFalsely : Prop := nestRightRow.holds Try.pinned (OpenSpec.ofChange nestRightWrong)

/-- 'pantoscopelaw01.OutlineHulls': WHATEVER THE INPUT: true; the input reads as it did. -/
def outlineHullsSpec : ChangeSpec := { name := "outlineHulls", fn := fun _ => fun
  | [d] => { results := [.lit (.bool true)], args := [d] }
  | _ => none }
def outlineHullsRow : OpenClaim := { program := "ytohlinbcbfgdfaa", sum := "3b86e17c173a1d3af8cdc570a7b52a76ead45eaf699cb21e6d3e803b1e969b75", func := "pantoscope/pantoscopelaw01.OutlineHulls", spec := "outlineHulls", unfollowed := true, recurses := true, apart := false }
def OutlineHullsSaid : Prop := outlineHullsRow.holds Try.pinned (OpenSpec.ofChange outlineHullsSpec)

/-- ITS FALSE NEIGHBOUR: 'it returns false'. Refute it at one input. -/
def outlineHullsWrong : ChangeSpec := { name := "outlineHulls", fn := fun _ => fun
  | [d] => { results := [.lit (.bool false)], args := [d] }
  | _ => none }
def OutlineHullsWrongFalsely : Prop := outlineHullsRow.holds Try.pinned (OpenSpec.ofChange outlineHullsWrong)

/- THE SECOND FORM. 'bulk': how many values and letters a reading holds, each counted each time it is reached (what is shared counts as often as it is met; a slice's spare places count too). A statement '..UptoSaid' is the law's where the arguments, and the package variables that the reading takes, are together of bulk at most 1048576: NARROWER than '..Said'. Prove '..Said' where nothing that the law and all that it calls make is longer than what came in: it says more and counts as full. Else prove '..UptoSaid'. A law counts once. -/
mutual
def uptoBulk {H : Type} : DataW H → Nat
  | .lit (.string bytes) => bytes.length + 1
  | .lit _ => 1
  | .nil => 1
  | .ptr d => uptoBulk d + 1
  | .slice elems spare => uptoBulkAll elems + uptoBulkAll spare + 1
  | .agg parts => uptoBulkAll parts + 1
  | .iface _ d => uptoBulk d + 1
  | .map entries => uptoBulkEntries entries + 1
  | .held _ => 1
def uptoBulkAll {H : Type} : List (DataW H) → Nat
  | [] => 0
  | d :: r => uptoBulk d + uptoBulkAll r
def uptoBulkEntries {H : Type} : List (Lit × DataW H) → Nat
  | [] => 0
  | x :: r => uptoBulkEntry x + uptoBulkEntries r
def uptoBulkEntry {H : Type} : Lit × DataW H → Nat
  | (.string bytes, d) => bytes.length + uptoBulk d + 1
  | (_, d) => uptoBulk d + 1
 end
def uptoSmall : (H : Type) → List (DataW H) → Bool := fun _ ds => decide (uptoBulkAll ds ≤ 1048576)
def OpenSpec.upto (s : _root_.Go.ChangeSpec) : _root_.Go.OpenSpec := { _root_.Go.OpenSpec.ofChange s with cond := some uptoSmall }

/-- 'pantoscopelaw07.NestMirrors', WHERE WHAT IT READS IS OF BULK AT MOST 1048576: true; the input reads as it did. -/
def nestMirrorsUptoRow : OpenClaim := { program := "ytohlinbcbfgdfaa", sum := "3b86e17c173a1d3af8cdc570a7b52a76ead45eaf699cb21e6d3e803b1e969b75", func := "pantoscope/pantoscopelaw07.NestMirrors", spec := "nestMirrors", unfollowed := true, recurses := true, apart := false, narrowed := true }
def NestMirrorsUptoSaid : Prop := nestMirrorsUptoRow.holds Try.pinned (OpenSpec.upto nestMirrorsSpec)

/-- 'pantoscopelaw07.NestRight', WHERE WHAT IT READS IS OF BULK AT MOST 1048576: true; the input reads as it did. -/
def nestRightUptoRow : OpenClaim := { program := "ytohlinbcbfgdfaa", sum := "3b86e17c173a1d3af8cdc570a7b52a76ead45eaf699cb21e6d3e803b1e969b75", func := "pantoscope/pantoscopelaw07.NestRight", spec := "nestRight", unfollowed := true, recurses := true, apart := false, narrowed := true }
def NestRightUptoSaid : Prop := nestRightUptoRow.holds Try.pinned (OpenSpec.upto nestRightSpec)

/-- 'pantoscopelaw01.OutlineHulls', WHERE WHAT IT READS IS OF BULK AT MOST 1048576: true; the input reads as it did. -/
def outlineHullsUptoRow : OpenClaim := { program := "ytohlinbcbfgdfaa", sum := "3b86e17c173a1d3af8cdc570a7b52a76ead45eaf699cb21e6d3e803b1e969b75", func := "pantoscope/pantoscopelaw01.OutlineHulls", spec := "outlineHulls", unfollowed := true, recurses := true, apart := false, narrowed := true }
def OutlineHullsUptoSaid : Prop := outlineHullsUptoRow.holds Try.pinned (OpenSpec.upto outlineHullsSpec)

end Rows
end Go.Proofs.Ytohlinbcbfgdfaa

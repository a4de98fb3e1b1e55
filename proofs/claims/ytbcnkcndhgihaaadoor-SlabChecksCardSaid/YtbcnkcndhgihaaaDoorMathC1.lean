/- Blocks: the reference's own tests, plain. -/
import Derived.Test.YtbcnkcndhgihaaaDoorMathB1
namespace Go.Proofs.YtbcnkcndhgihaaaDoor
open Go.RowKit

def num1B (m n : Int) : Bool := if m < 0 then decide (n = 0) else decide (m ≤ n) && decide (n ≤ 999)
def numsB (b : BT) (l : T3) : Bool := num1B l.x b.n0 && (num1B l.y b.n1 && num1B l.z b.n2)
theorem fits_zero {n : T3} (h : ExtOk n) : fitsS n = 0 := by
  obtain ⟨h1, h2, h3, h4⟩ := h
  unfold fitsS
  rw [if_neg (by omega), if_neg (by omega)]
theorem level_eq (b : BT) : decide (16 < levelS 17 b) = deepS 16 b := by
  have := deep_level 16 b
  rw [Bool.eq_iff_iff, decide_eq_true_eq, this]
  constructor <;> intro h <;> omega
/-- What formed says, Op by Op. -/
def formedB (b : BT) : Bool :=
  if b.op = 1 then decide (b.ax = 0) && (decide (97 ≤ b.co) && decide (b.co ≤ 105)) && (decide (b.ps.length = 0) && numsB b ⟨1, 1, 1⟩)
  else if b.op = 2 then decide (0 ≤ b.ax) && decide (b.ax ≤ 2) && decide (b.co = 0) && (decide (b.ps.length = 2) && numsB b ⟨-1, -1, -1⟩)
  else if b.op = 3 ∨ b.op = 5 then decide (0 ≤ b.ax) && decide (b.ax ≤ 2) && decide (b.co = 0) && (decide (b.ps.length = 1) && numsB b ⟨-1, -1, -1⟩)
  else if b.op = 4 then decide (0 ≤ b.ax) && decide (b.ax ≤ 2) && decide (b.co = 0) && (decide (b.ps.length = 1) && numsB b ⟨0, 1, -1⟩)
  else if b.op = 6 then decide (0 ≤ b.ax) && decide (b.ax ≤ 2) && decide (b.co = 0) && (decide (b.ps.length = 1) && numsB b ⟨1, -1, -1⟩)
  else false
theorem formed_eq (b : BT) : formedB b = oneS b := by
  by_cases o1 : b.op = 1
  · unfold formedB oneS fieldsS partsS numsB num1B btw
    rw [if_pos o1, if_pos o1, if_pos o1, Bool.eq_iff_iff]
    generalize b.ps.length = L
    simp
    omega
  by_cases o2 : b.op = 2
  · unfold formedB oneS fieldsS partsS numsB num1B btw
    simp only [o2]
    rw [Bool.eq_iff_iff]
    generalize b.ps.length = L
    simp
    omega
  by_cases o3 : b.op = 3
  · unfold formedB oneS fieldsS partsS numsB num1B btw
    simp only [o3]
    rw [Bool.eq_iff_iff]
    generalize b.ps.length = L
    simp
    omega
  by_cases o4 : b.op = 4
  · unfold formedB oneS fieldsS partsS numsB num1B btw
    simp only [o4]
    rw [Bool.eq_iff_iff]
    generalize b.ps.length = L
    simp
    omega
  by_cases o5 : b.op = 5
  · unfold formedB oneS fieldsS partsS numsB num1B btw
    simp only [o5]
    rw [Bool.eq_iff_iff]
    generalize b.ps.length = L
    simp
    omega
  by_cases o6 : b.op = 6
  · unfold formedB oneS fieldsS partsS numsB num1B btw
    simp only [o6]
    rw [Bool.eq_iff_iff]
    generalize b.ps.length = L
    simp
    omega
  unfold formedB oneS partsS
  rw [if_neg o1, if_neg o2, if_neg (by omega), if_neg o4, if_neg o6, if_neg o1, if_neg o2, if_neg (by omega)]
  rw [decide_eq_false (by omega)]
  rfl
end Go.Proofs.YtbcnkcndhgihaaaDoor

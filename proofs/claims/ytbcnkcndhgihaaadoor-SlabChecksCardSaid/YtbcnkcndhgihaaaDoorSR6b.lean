/- Blocks: the reader: recipe: its end. -/
import Derived.Test.YtbcnkcndhgihaaaDoorSR6
namespace Go.Proofs.YtbcnkcndhgihaaaDoor
open Go.RowKit Go.Shelf
set_option linter.unusedSimpArgs false

def chain7 (w : World) (k : Nat) (b : BT) : World := ((((((w.setCell ⟨k, 0, none⟩ (.int .i64 b.op)).setCell ⟨k, 1, none⟩ (.int .i64 b.ax)).setCell ⟨k, 2, none⟩ (.int .u8 b.co)).setCell ⟨k, 3, none⟩ (.int .i64 b.n0)).setCell ⟨k, 4, none⟩ (.int .i64 b.n1)).setCell ⟨k, 5, none⟩ (.int .i64 b.n2)).setCell ⟨k, 6, none⟩ (.slice b.A b.ps.length b.cp)
theorem BX.chain {w : World} {k : Nat} {b : BT} (h : BX w k b) (q : BT) : BX (chain7 w k q) k q := by
  unfold BX at h ⊢
  unfold chain7
  simp [World.setCell, Array.getElem?_modify, h]
theorem chain_grown (w : World) (k : Nat) (b : BT) : w.grownBy (chain7 w k b) (some k) := by
  unfold chain7
  exact Lib.grownBy_setB (Lib.grownBy_setB (Lib.grownBy_setB (Lib.grownBy_setB (Lib.grownBy_setB (Lib.grownBy_setB (Lib.grownBy_setCell w k 0 _) 1 _) 2 _) 3 _) 4 _) 5 _) 6 _
theorem own_cap {w : World} {B e size n c : Nat} {A : Option Addr} {xs : List Value} (h : w.ownsRow B e size (.slice A n c) n xs) : c ≤ maxLen := by
  rcases h.2 with ⟨e, _⟩ | ⟨g, cap, cur, e, _, _, _, hm, _⟩
  · injection e with _ _ e; omega
  · injection e with _ _ e; omega
theorem okb_fin {w wr wF : World} {P : Nat} {op ax co n0 n1 n2 : Int} {A : Option Addr} {cp : Nat} {ps : List BT} {J : Nat → Prop} (hown : OwnSB wr (P + 1) (.slice A ps.length cp) ps) (hkid : ∀ p ∈ ps, OkI wr (fun i => P + 1 ≤ i ∧ i < wr.heap.size ∧ J i) p)
    (hs : wr.heap.size ≤ wF.heap.size) (hk : ∀ b off v, P + 1 ≤ b → b < wr.heap.size → wr.cell? ⟨b, off, none⟩ = some v → wF.cell? ⟨b, off, none⟩ = some v) (hw : w.heap.size ≤ P)
    (ho : op = 1 ∨ op = 2 ∨ op = 3 ∨ op = 4 ∨ op = 5 ∨ op = 6) (ha : 0 ≤ ax ∧ ax ≤ 2) (hc : 0 ≤ co ∧ co ≤ 255) (h0 : 0 ≤ n0 ∧ n0 ≤ 999) (h1 : 0 ≤ n1 ∧ n1 ≤ 999) (h2 : 0 ≤ n2 ∧ n2 ≤ 999) :
    OkI wF (fun i => w.heap.size ≤ i ∧ i < wF.heap.size) (.mk op ax co n0 n1 n2 A cp ps) := by
  have hcap := own_cap hown
  obtain ⟨A', c', e, hr, hl, hb, hz⟩ := own_rdSB hown
  injection e with e1 _ e3
  subst e1 e3
  refine .mk _ ?_ (fun p hp => (hkid p hp).keep (fun i h => ⟨by omega, by omega⟩) fun b off v hi hcv => hk b off v hi.1 hi.2.1 hcv) hl hcap hz ?_ ?_ hc ?_ ?_ ?_
  · intro i p hp
    obtain ⟨b, off, hA, hbl, c0, c1, c2, c3, c4, c5, c6⟩ := hr i p hp
    have hbb := hb _ hA
    dsimp only at hbb
    refine ⟨b, off, hA, ⟨by omega, by omega⟩, fun j v hj => hk b _ v hbb hbl ?_⟩
    match j, hj with
    | 0, hj => injection hj with hj; subst hj; exact c0
    | 1, hj => injection hj with hj; subst hj; exact c1
    | 2, hj => injection hj with hj; subst hj; exact c2
    | 3, hj => injection hj with hj; subst hj; exact c3
    | 4, hj => injection hj with hj; subst hj; exact c4
    | 5, hj => injection hj with hj; subst hj; exact c5
    | 6, hj => injection hj with hj; subst hj; exact c6
    | j + 7, hj => simp [BT.cl] at hj
  · show -9223372036854775808 ≤ op ∧ op ≤ 9223372036854775807
    omega
  · show -9223372036854775808 ≤ ax ∧ ax ≤ 9223372036854775807
    omega
  · show -9223372036854775808 ≤ n0 ∧ n0 ≤ 9223372036854775807
    omega
  · show -9223372036854775808 ≤ n1 ∧ n1 ≤ 9223372036854775807
    omega
  · show -9223372036854775808 ≤ n2 ∧ n2 ≤ 9223372036854775807
    omega
theorem strip_mk (op ax co n0 n1 n2 : Int) (A : Option Addr) (cp : Nat) (ps : List BT) : strip (.mk op ax co n0 n1 n2 A cp ps) = .mk op ax co n0 n1 n2 none 0 (ps.map strip) := by
  rw [← stripL_eq]; rfl
end Go.Proofs.YtbcnkcndhgihaaaDoor

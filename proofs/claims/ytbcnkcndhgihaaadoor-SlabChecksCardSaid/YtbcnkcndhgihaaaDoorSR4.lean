/- Blocks: the reader: head: the walk. -/
import Derived.Test.YtbcnkcndhgihaaaDoorSR3
namespace Go.Proofs.YtbcnkcndhgihaaaDoor
open Go.RowKit Go.Shelf
set_option linter.unusedSimpArgs false

def zeroB : BT := .mk 0 0 0 0 0 0 none 0 []
/-- What head returns. -/
def HeadR (k : Nat) (r : Bs) (w : World) (e : Ending) (w' : World) : Prop := w.grownBy w' (some k) ∧ match headS r with
  | none => (∃ q, e = .returned (.tuple #[valB zeroB, .bool false]) ∧ RdrX w' k q)
  | some (op, ax, co, q) => e = .returned (.tuple #[valB (.mk op ax co 0 0 0 none 0 []), .bool true]) ∧ RdrX w' k q
/-- A block in a box, whole. -/
def BX (w : World) (k : Nat) (b : BT) : Prop := w.heap[k]? = some (.cells #[.int .i64 b.op, .int .i64 b.ax, .int .u8 b.co, .int .i64 b.n0, .int .i64 b.n1, .int .i64 b.n2, .slice b.A b.ps.length b.cp] 25 (0, 0))
theorem BX.c {w : World} {k : Nat} {b : BT} (h : BX w k b) : BxB w k b := by
  unfold BX at h
  unfold BxB
  refine ⟨?_, ?_, ?_, ?_, ?_, ?_, ?_⟩ <;> simp [World.cell?, h]
theorem BX.f {w : World} {k : Nat} {b : BT} (h : BX w k b) : w.frozen? ⟨k, 0, none⟩ = false ∧ w.frozen? ⟨k, 1, none⟩ = false ∧ w.frozen? ⟨k, 2, none⟩ = false ∧ w.frozen? ⟨k, 3, none⟩ = false ∧ w.frozen? ⟨k, 4, none⟩ = false ∧ w.frozen? ⟨k, 5, none⟩ = false ∧ w.frozen? ⟨k, 6, none⟩ = false := by
  unfold BX at h
  refine ⟨?_, ?_, ?_, ?_, ?_, ?_, ?_⟩ <;> simp [World.frozen?, h]
theorem BX.lt {w : World} {k : Nat} {b : BT} (h : BX w k b) : k < w.heap.size := (Array.getElem?_eq_some_iff.1 h).1
theorem BX.below {w w' : World} {k B : Nat} {b : BT} (h : BX w k b) (hb : Below B w w') (hk : k < B) : BX w' k b := (hb.block k hk).trans h
theorem BX.grown {w w' : World} {k j : Nat} {b : BT} (h : BX w k b) (hg : w.grownBy w' (some j)) (hne : k ≠ j) : BX w' k b := (hg.block k h.lt (by simpa using hne)).trans h
theorem BX.new (w : World) (b : BT) : BX (w.alloc (.cells #[.int .i64 b.op, .int .i64 b.ax, .int .u8 b.co, .int .i64 b.n0, .int .i64 b.n1, .int .i64 b.n2, .slice b.A b.ps.length b.cp] 25)) w.heap.size b := heap_alloc_new w _
/-- The seven cells, stored. -/
def putB (w : World) (k : Nat) (b : BT) : World := w.setRow k #[.int .i64 b.op, .int .i64 b.ax, .int .u8 b.co, .int .i64 b.n0, .int .i64 b.n1, .int .i64 b.n2, .slice b.A b.ps.length b.cp]
theorem BX.put {w : World} {k : Nat} {b : BT} (h : BX w k b) (q : BT) : BX (putB w k q) k q := setRow_heap w k _ _ _ _ h
theorem putB_grown (w : World) (k : Nat) (b : BT) : w.grownBy (putB w k b) (some k) :=
  ⟨rfl, rfl, rfl, Nat.le_of_eq (setRow_size w k _).symm, fun i hi hne => setRow_other w k i _ (fun h => hne (by rw [h]))⟩
theorem run_putB {w : World} {k : Nat} {b : BT} (h : BX w k b) (q : BT) : (storeVar 25 ⟨k, 0, none⟩ (.agg #[.int .i64 q.op, .int .i64 q.ax, .int .u8 q.co, .int .i64 q.n0, .int .i64 q.n1, .int .i64 q.n2, .slice q.A q.ps.length q.cp])).run Tryd.prog w = .ok () (putB w k q) :=
  run_storeVar_row w k 25 25 _ _ h (by kernel_rfl) rfl (by simp [Value.oneCell'])
theorem run_putB2 {w : World} {k : Nat} {b : BT} (h : BX w k b) (q : BT) : (Instr.storeAt 25 (.pointer (some ⟨k, 0, none⟩)) (.agg #[.int .i64 q.op, .int .i64 q.ax, .int .u8 q.co, .int .i64 q.n0, .int .i64 q.n1, .int .i64 q.n2, .slice q.A q.ps.length q.cp])).run Tryd.prog w = .ok () (putB w k q) := by
  have := run_putB h q
  simpa [Instr.storeAt, Instr.sureAddr, Sem.run_bind, Sem.run_pure] using this
theorem wpList_store7 {ops : Array Oper} {rest : List Oper} {o : Oper} {a : Act} {Q : Exit → Act → World → Prop} {w : World} {k : Nat} {b : BT} (q : BT) (x y : Operand) (h : BX w k b) (hgd : o.guard = none) (ho : o.op = .store 25 x y) (hx : a.eval x = .pointer (some ⟨k, 0, none⟩)) (hy : a.eval y = valB q)
    (hn : wpList Tryd.prog ops Q rest (a.put o.dst undef) (putB w k q)) : wpList Tryd.prog ops Q (o :: rest) a w := by
  unfold wpList
  have hr : (execOp a.eval o).run Tryd.prog w = .ok .skip (putB w k q) := by
    unfold execOp
    rw [ho]
    have h2 := run_putB2 h q
    simp [hx, hy, Sem.run_bind, h2]
  rw [if_pos (by simp [Region.wanted, hgd])]
  left
  unfold Oper.wp
  rw [hr]
  exact hn
theorem at_store7 {P : Program} {ops : Array Oper} {rest : List Oper} {a : Act} {Q : Exit → Act → World → Prop} {w : World} {o1 o3 o4 o5 o6} {t : TypeId} {x y : Operand} (h : wpList P ops Q (Oper.mk o1 (.store t x y) o3 o4 o5 o6 :: rest) a w) : wpList P ops Q (Oper.mk o1 (.store t x y) o3 o4 o5 o6 :: rest) a w := h
theorem grown_then {a b c : World} {k j : Nat} (h : a.grownBy b (some k)) (h2 : b.grownBy c (some j)) (hj : a.heap.size ≤ j) : a.grownBy c (some k) :=
  ⟨h2.os.trans h.os, h2.tape.trans h.tape, h2.output.trans h.output, Nat.le_trans h.size h2.size, fun i hi hne => (h2.block i (Nat.lt_of_lt_of_le hi h.size) (fun e => by injection e with e; omega)).trans (h.block i hi hne)⟩
theorem RdrX.putB {w : World} {k j : Nat} {r : Bs} {b : BT} (h : RdrX w k r) (hne : k ≠ j) : RdrX (putB w j b) k r := (setRow_other w j k _ hne).trans h
theorem low_of {m : Nat} {W : Bs} (h : wordsL[m]? = some W) : W = [] ↔ m < 2 := by
  have hm : m < 7 := (List.getElem?_eq_some_iff.1 h).1
  have := words_low ⟨m, hm⟩
  rwa [show wordsL.getD m [] = W by rw [List.getD_eq_getElem?_getD, h]; rfl] at this
theorem word_len {m : Nat} {W : Bs} (h : wordsL[m]? = some W) : W.length ≤ 6 := by
  have : ∀ x ∈ wordsL, x.length ≤ 6 := by decide
  exact this W (List.mem_of_getElem? h)
theorem no_low {r : Bs} {m p : Nat} (h : m < 2) (_ : ∀ x ∈ headsS.take (jj m p), preB r x.2.2 = false) (q : Nat) : ∀ x ∈ headsS.take (jj m q), preB r x.2.2 = false := by
  unfold jj; rw [if_pos h]; simp
theorem at_of {m p : Nat} {W : Bs} (h2 : 2 ≤ m) (hm : m < 7) (hp : p < 3) (h : wordsL[m]? = some W) : headsS[jj m p]? = some ((m : Int), (p : Int), W ++ [32, UInt8.ofNat (120 + p)]) := by
  have := heads_at ⟨m, hm⟩ h2 ⟨p, hp⟩
  rwa [show wordsL.getD m [] = W by rw [List.getD_eq_getElem?_getD, h]; rfl] at this
theorem no_succ {r : Bs} {m p : Nat} {W : Bs} (h2 : 2 ≤ m) (hm : m < 7) (hp : p < 3) (h : wordsL[m]? = some W) (hn : ∀ x ∈ headsS.take (jj m p), preB r x.2.2 = false) (hf : preB r (W ++ [32, UInt8.ofNat (120 + p)]) = false) : ∀ x ∈ headsS.take (jj m (p + 1)), preB r x.2.2 = false := by
  have e : jj m (p + 1) = jj m p + 1 := by unfold jj; rw [if_neg (by omega), if_neg (by omega)]; omega
  rw [e, take_succ_of (at_of h2 hm hp h)]
  intro x hx
  rcases List.mem_append.1 hx with hx | hx
  · exact hn x hx
  · rw [List.mem_singleton.1 hx]; exact hf
theorem head_hit {r : Bs} {m p : Nat} {W : Bs} (h2 : 2 ≤ m) (hm : m < 7) (hp : p < 3) (h : wordsL[m]? = some W) (hn : ∀ x ∈ headsS.take (jj m p), preB r x.2.2 = false) (hf : preB r (W ++ [32, UInt8.ofNat (120 + p)]) = true) : headS r = some ((m : Int), (p : Int), 0, r.drop (W ++ [32, UInt8.ofNat (120 + p)]).length) := by
  unfold headS
  rw [find_at hn (at_of h2 hm hp h) hf]
theorem jj_next {m : Nat} (h : m < 7) : jj (m + 1) 0 = jj m 3 := by unfold jj; split <;> split <;> omega
theorem next0 (wo : World) : ∀ ty, (Instr.next (.pointer (some ⟨wo.heap.size, 0, none⟩)) true ty).run Tryd.prog (wo.iter ⟨#[120, 121, 122]⟩ 0) = .ok (.tuple #[.bool true, .int .i64 0, .int .i32 120]) (wo.iter ⟨#[120, 121, 122]⟩ 1) := fun ty => by
  rw [run_next_ascii wo ⟨#[120, 121, 122]⟩ 0 ty (show 0 < 3 by omega) (by decide)]
  rfl
theorem next1 (wo : World) : ∀ ty, (Instr.next (.pointer (some ⟨wo.heap.size, 0, none⟩)) true ty).run Tryd.prog (wo.iter ⟨#[120, 121, 122]⟩ 1) = .ok (.tuple #[.bool true, .int .i64 1, .int .i32 121]) (wo.iter ⟨#[120, 121, 122]⟩ 2) := fun ty => by
  rw [run_next_ascii wo ⟨#[120, 121, 122]⟩ 1 ty (show 1 < 3 by omega) (by decide)]
  rfl
theorem next2 (wo : World) : ∀ ty, (Instr.next (.pointer (some ⟨wo.heap.size, 0, none⟩)) true ty).run Tryd.prog (wo.iter ⟨#[120, 121, 122]⟩ 2) = .ok (.tuple #[.bool true, .int .i64 2, .int .i32 122]) (wo.iter ⟨#[120, 121, 122]⟩ 3) := fun ty => by
  rw [run_next_ascii wo ⟨#[120, 121, 122]⟩ 2 ty (show 2 < 3 by omega) (by decide)]
  rfl
theorem next3 (wo : World) : ∀ ty, (Instr.next (.pointer (some ⟨wo.heap.size, 0, none⟩)) true ty).run Tryd.prog (wo.iter ⟨#[120, 121, 122]⟩ 3) = .ok (.tuple #[.bool false]) (wo.iter ⟨#[120, 121, 122]⟩ 3) := fun ty => run_next_end wo ⟨#[120, 121, 122]⟩ 3 ty (show ¬ 3 < 3 by omega)
theorem head_miss {r : Bs} (h : ∀ x ∈ headsS.take (jj 7 0), preB r x.2.2 = false) : headS r = match r with
    | [] => none
    | c :: l => if 97 ≤ c.toNat ∧ c.toNat ≤ 105 then some (1, 0, c.toNat, l) else none := by
  unfold headS
  have : headsS.find? (fun h => preB r h.2.2) = none := by
    rw [List.find?_eq_none]
    intro x hx
    rw [h x hx]; simp
  rw [this]
  cases r <;> rfl
theorem eq_empty {W : Bs} (h : ¬ W = []) (w : World) : (binOp .eql 9 (.string ⟨W.toArray⟩) (.string ⟨#[]⟩)).run Tryd.prog w = .ok (.bool false) w := by
  have u3 := Tryd.underlying9
  go_simp
theorem ne_empty {W : Bs} (h : ¬ W = []) (w : World) : (binOp .neq 9 (.string ⟨W.toArray⟩) (.string ⟨#[]⟩)).run Tryd.prog w = .ok (.bool true) w := by
  have u3 := Tryd.underlying9
  go_simp
theorem cat3 (W : Bs) (a b : UInt8) : (⟨W.toArray⟩ : ByteArray) ++ ⟨#[a]⟩ ++ ⟨#[b]⟩ = ⟨(W ++ [a, b]).toArray⟩ := by
  rw [show (⟨#[a]⟩ : ByteArray) = ⟨[a].toArray⟩ from rfl, show (⟨#[b]⟩ : ByteArray) = ⟨[b].toArray⟩ from rfl, cat_list, cat_list, List.append_assoc]
  rfl
theorem xyz0 : (⟨#[120, 121, 122]⟩ : ByteArray).extract 0 1 = ⟨#[120]⟩ := ext_list [120, 121, 122] 0 1
theorem xyz1 : (⟨#[120, 121, 122]⟩ : ByteArray).extract 1 2 = ⟨#[121]⟩ := ext_list [120, 121, 122] 1 2
theorem xyz2 : (⟨#[120, 121, 122]⟩ : ByteArray).extract 2 3 = ⟨#[122]⟩ := ext_list [120, 121, 122] 2 3
set_option maxRecDepth 100000 in
set_option maxHeartbeats 8000000 in
theorem head_any (k : Nat) (r : Bs) (w : World) (h : RdrX w k r) : Calls Tryd.prog 90 #[.pointer (some ⟨k, 0, none⟩)] w (HeadR k r w) := by
  have HX := Lib.hid h
  have hk := h.lt
  clear h
  obtain ⟨w1, hw1⟩ : ∃ w1, (w.alloc (.cells #[.int .i64 0, .int .i64 0, .int .u8 0, .int .i64 0, .int .i64 0, .int .i64 0, .slice none 0 0] 25)).alloc (.cells #[.string ⟨#[]⟩, .string ⟨#[]⟩, .string ⟨#[115, 116, 97, 99, 107]⟩, .string ⟨#[116, 117, 114, 110]⟩, .string ⟨#[115, 108, 105, 99, 101]⟩, .string ⟨#[102, 108, 105, 112]⟩, .string ⟨#[114, 101, 112, 101, 97, 116]⟩] 9) = w1 := ⟨_, rfl⟩
  have hB1 : Below w.heap.size w w1 := by rw [← hw1]; (repeat (first | exact Below.refl _ _ | assumption | refine Below.alloc ?_ (by first | exact Nat.le_refl _ | exact Below.size (by assumption) | omega | (simp <;> omega)) _ | refine Below.setCell ?_ (by first | exact Nat.le_refl _ | exact Below.size (by assumption) | omega | (simp <;> omega)) _ | refine below_drewN ?_ _ | refine Below.drew ?_))
  have hz1 : w.heap.size + 1 < w1.heap.size := by rw [← hw1]; simp
  have HBX : Hid (∀ w', Below w1.heap.size w1 w' → BX w' w.heap.size zeroB) := fun w' hb => by
    refine BX.below (B := w1.heap.size) ?_ hb (by omega)
    rw [← hw1]
    exact (BX.new w zeroB).below (B := w.heap.size + 1) (by (repeat (first | exact Below.refl _ _ | assumption | refine Below.alloc ?_ (by first | exact Nat.le_refl _ | exact Below.size (by assumption) | omega | (simp <;> omega)) _ | refine Below.setCell ?_ (by first | exact Nat.le_refl _ | exact Below.size (by assumption) | omega | (simp <;> omega)) _ | refine below_drewN ?_ _ | refine Below.drew ?_))) (by omega)
  have HWD : Hid (∀ m W, wordsL[m]? = some W → ∀ w', Below w1.heap.size w1 w' → w'.cell? ⟨w.heap.size + 1, m, none⟩ = some (.string ⟨W.toArray⟩)) := fun m W hW w' hb => by
    refine (hb.cell hz1).trans ?_
    rw [← hw1]
    have := words_cell (w.alloc (.cells #[.int .i64 0, .int .i64 0, .int .u8 0, .int .i64 0, .int .i64 0, .int .i64 0, .slice none 0 0] 25)) m W hW
    simpa using this
  go_enter Tryd.func90, Tryd.ntmps90
  go_wp2_with fail
  refine (words_any _).mono ?_
  rintro e w9 ⟨rfl, hw9⟩
  rw [hw1] at hw9
  subst hw9
  clear hw1
  go_wp2
  have hsz : (w.alloc (.cells #[.int .i64 0, .int .i64 0, .int .u8 0, .int .i64 0, .int .i64 0, .int .i64 0, .slice none 0 0] 25)).heap.size = w.heap.size + 1 := by simp
  go_loopw [4, 5, 6, 10] (fun _ _ _ i wr => ∃ m : Nat, m ≤ 7 ∧ i = .int .i64 m ∧ (∀ x ∈ headsS.take (jj m 0), preB r x.2.2 = false) ∧ Below w9.heap.size w9 wr) (fun _ _ _ i _ => 7 - (intOf i).toNat)
  case atStart => exact ⟨0, by omega, rfl, (by simp [jj]), Below.refl _ _⟩
  case round =>
    obtain ⟨m, hm, rfl, hno, hB⟩ := hrel
    have HN := Lib.hid hno; clear hno
    rename World => wo
    have hBw := hB1.trans (hB.mono hB1.size)
    have hso := hB.size
    by_cases hlt : m < 7
    · obtain ⟨W, hW⟩ := getElem?_of_lt (show m < wordsL.length from hlt)
      have hWc := HWD.out m W hW wo hB
      have HW := Lib.hid hW; clear hW
      have hltI : (m : Int) < 7 := by omega
      have HLT := Lib.hid hlt
      clear hlt
      go_wp2
      clear hWc
      have HXo : Hid (∀ p, RdrX (wo.iter ⟨#[120, 121, 122]⟩ p) k r) := fun p => HX.out.below (B := w.heap.size) (hBw.alloc hBw.size _) hk
      have HBi : Hid (∀ p, Below w.heap.size w (wo.iter ⟨#[120, 121, 122]⟩ p)) := fun p => hBw.alloc hBw.size _
      have HBXi : Hid (∀ p, BX (wo.iter ⟨#[120, 121, 122]⟩ p) w.heap.size zeroB) := fun p => HBX.out _ (hB.alloc hB.size _)
      go_loopw [6] (fun _ wr => ∃ p : Nat, p ≤ 3 ∧ wr = wo.iter ⟨#[120, 121, 122]⟩ p ∧ ∀ x ∈ headsS.take (jj m p), preB r x.2.2 = false) (fun _ wr => 3 - wr.iterPos wo.heap.size)
      case atStart => exact ⟨0, by omega, rfl, HN.out⟩
      case round =>
        obtain ⟨p, hp3, rfl, hno2⟩ := hrel
        have HN2 := Lib.hid hno2; clear hno2
        have hp4 : p = 0 ∨ p = 1 ∨ p = 2 ∨ p = 3 := by omega
        rcases hp4 with rfl | rfl | rfl | rfl
        · have hnx : ∀ ty, (Instr.next (.pointer (some ⟨wo.heap.size, 0, none⟩)) true ty).run Tryd.prog (wo.iter ⟨#[120, 121, 122]⟩ 0) = .ok (.tuple #[.bool true, .int .i64 0, .int .i32 120]) (wo.iter ⟨#[120, 121, 122]⟩ 1) := next0 wo
          by_cases hE : W = []
          · have HLOW := Lib.hid ((low_of HW.out).1 hE)
            subst hE
            have hN2 := Lib.hid (no_low HLOW.out HN2.out (0 + 1))
            go_wp2
            go_roundw
            case rel => exact ⟨1, by omega, rfl, hN2.out⟩
            case measure => simp
          · have HLOW := Lib.hid (show 2 ≤ m from Nat.le_of_not_lt fun h => hE ((low_of HW.out).2 h))
            have hneq : ∀ w, (binOp .neq 9 (.string ⟨W.toArray⟩) (.string ⟨#[]⟩)).run Tryd.prog w = .ok (.bool true) w := ne_empty hE
            have hcat : (⟨W.toArray⟩ : ByteArray) ++ ⟨#[32]⟩ ++ (⟨#[120, 121, 122]⟩ : ByteArray).extract 0 1 = ⟨(W ++ [32, 120]).toArray⟩ := by rw [xyz0]; exact cat3 W 32 120
            have hWl : W.length ≤ 6 := word_len HW.out
            have hWe : W.isEmpty = false := by cases W with
              | nil => exact absurd rfl hE
              | cons _ _ => rfl
            cases hp : preB r (W ++ [32, 120])
            · have hN2 := Lib.hid (no_succ HLOW.out HLT.out (show 0 < 3 by omega) HW.out HN2.out hp)
              have HTK := Lib.hid (take_no k r (W ++ [32, 120]) (wo.iter ⟨#[120, 121, 122]⟩ 1) (HXo.out _) hp)
              clear hp
              go_wp2_with fail
              refine HTK.out.mono ?_
              rintro e w5 ⟨rfl, rfl⟩
              go_wp2
              go_roundw
              case rel => exact ⟨1, by omega, rfl, hN2.out⟩
              case measure => simp
            · have HH := Lib.hid (head_hit HLOW.out HLT.out (show 0 < 3 by omega) HW.out HN2.out hp)
              have HTK := Lib.hid (take_yes k r (W ++ [32, 120]) (wo.iter ⟨#[120, 121, 122]⟩ 1) (HXo.out _) hp)
              have HSET := Lib.hid ((HXo.out 1).set (r.drop (W ++ [32, 120]).length))
              have HG := Lib.hid (Lib.grownBy_setB (Lib.grownBy_below (World.grownBy.refl w (some k)) (HBi.out 1)) 0 (.string ⟨(r.drop (W ++ [32, 120]).length).toArray⟩) : w.grownBy _ (some k))
              clear hp
              go_wp2_with fail
              refine HTK.out.mono ?_
              rintro e w5 ⟨rfl, hw5⟩
              rw [← hw5] at HSET HG
              have HB5 := Lib.hid ((HBXi.out 1).grown (Lib.grownBy_setCell _ k 0 (.string ⟨(r.drop (W ++ [32, 120]).length).toArray⟩)) (by omega))
              rw [← hw5] at HB5
              clear hw5
              obtain ⟨f0, f1, f2, f3, f4, f5, f6⟩ := HB5.out.c
              obtain ⟨z0, z1, z2, z3, z4, z5, z6⟩ := HB5.out.f
              have hl5 := HB5.out.lt
              clear f0 f1 f2 f3 f4 f5 f6 z0 z1 z2 z3 z4 z5 z6
              go_wp2_with ((with_reducible refine at_store7 ?_); refine wpList_store7 (.mk (m : Int) 0 0 0 0 0 none 0 []) _ _ HB5.out rfl rfl rfl rfl ?_)
              obtain ⟨y0, y1, y2, y3, y4, y5, y6⟩ := (HB5.out.put (.mk (m : Int) 0 0 0 0 0 none 0 [])).c
              refine bodyPost_ret (v := .tuple #[valB (.mk (m : Int) 0 0 0 0 0 none 0 []), .bool true]) (by simp [results, Tryd.results90, go_sem, y0, y1, y2, y3, y4, y5, y6]) rfl ?_
              refine ⟨grown_then HG.out (putB_grown w5 w.heap.size _) (Nat.le_refl _), ?_⟩
              rw [HH.out]
              exact ⟨rfl, HSET.out.putB (by omega)⟩
        · have hnx : ∀ ty, (Instr.next (.pointer (some ⟨wo.heap.size, 0, none⟩)) true ty).run Tryd.prog (wo.iter ⟨#[120, 121, 122]⟩ 1) = .ok (.tuple #[.bool true, .int .i64 1, .int .i32 121]) (wo.iter ⟨#[120, 121, 122]⟩ 2) := next1 wo
          by_cases hE : W = []
          · have HLOW := Lib.hid ((low_of HW.out).1 hE)
            subst hE
            have hN2 := Lib.hid (no_low HLOW.out HN2.out (1 + 1))
            go_wp2
            go_roundw
            case rel => exact ⟨2, by omega, rfl, hN2.out⟩
            case measure => simp
          · have HLOW := Lib.hid (show 2 ≤ m from Nat.le_of_not_lt fun h => hE ((low_of HW.out).2 h))
            have hneq : ∀ w, (binOp .neq 9 (.string ⟨W.toArray⟩) (.string ⟨#[]⟩)).run Tryd.prog w = .ok (.bool true) w := ne_empty hE
            have hcat : (⟨W.toArray⟩ : ByteArray) ++ ⟨#[32]⟩ ++ (⟨#[120, 121, 122]⟩ : ByteArray).extract 1 2 = ⟨(W ++ [32, 121]).toArray⟩ := by rw [xyz1]; exact cat3 W 32 121
            have hWl : W.length ≤ 6 := word_len HW.out
            have hWe : W.isEmpty = false := by cases W with
              | nil => exact absurd rfl hE
              | cons _ _ => rfl
            cases hp : preB r (W ++ [32, 121])
            · have hN2 := Lib.hid (no_succ HLOW.out HLT.out (show 1 < 3 by omega) HW.out HN2.out hp)
              have HTK := Lib.hid (take_no k r (W ++ [32, 121]) (wo.iter ⟨#[120, 121, 122]⟩ 2) (HXo.out _) hp)
              clear hp
              go_wp2_with fail
              refine HTK.out.mono ?_
              rintro e w5 ⟨rfl, rfl⟩
              go_wp2
              go_roundw
              case rel => exact ⟨2, by omega, rfl, hN2.out⟩
              case measure => simp
            · have HH := Lib.hid (head_hit HLOW.out HLT.out (show 1 < 3 by omega) HW.out HN2.out hp)
              have HTK := Lib.hid (take_yes k r (W ++ [32, 121]) (wo.iter ⟨#[120, 121, 122]⟩ 2) (HXo.out _) hp)
              have HSET := Lib.hid ((HXo.out 2).set (r.drop (W ++ [32, 121]).length))
              have HG := Lib.hid (Lib.grownBy_setB (Lib.grownBy_below (World.grownBy.refl w (some k)) (HBi.out 2)) 0 (.string ⟨(r.drop (W ++ [32, 121]).length).toArray⟩) : w.grownBy _ (some k))
              clear hp
              go_wp2_with fail
              refine HTK.out.mono ?_
              rintro e w5 ⟨rfl, hw5⟩
              rw [← hw5] at HSET HG
              have HB5 := Lib.hid ((HBXi.out 2).grown (Lib.grownBy_setCell _ k 0 (.string ⟨(r.drop (W ++ [32, 121]).length).toArray⟩)) (by omega))
              rw [← hw5] at HB5
              clear hw5
              obtain ⟨f0, f1, f2, f3, f4, f5, f6⟩ := HB5.out.c
              obtain ⟨z0, z1, z2, z3, z4, z5, z6⟩ := HB5.out.f
              have hl5 := HB5.out.lt
              clear f0 f1 f2 f3 f4 f5 f6 z0 z1 z2 z3 z4 z5 z6
              go_wp2_with ((with_reducible refine at_store7 ?_); refine wpList_store7 (.mk (m : Int) 1 0 0 0 0 none 0 []) _ _ HB5.out rfl rfl rfl rfl ?_)
              obtain ⟨y0, y1, y2, y3, y4, y5, y6⟩ := (HB5.out.put (.mk (m : Int) 1 0 0 0 0 none 0 [])).c
              refine bodyPost_ret (v := .tuple #[valB (.mk (m : Int) 1 0 0 0 0 none 0 []), .bool true]) (by simp [results, Tryd.results90, go_sem, y0, y1, y2, y3, y4, y5, y6]) rfl ?_
              refine ⟨grown_then HG.out (putB_grown w5 w.heap.size _) (Nat.le_refl _), ?_⟩
              rw [HH.out]
              exact ⟨rfl, HSET.out.putB (by omega)⟩
        · have hnx : ∀ ty, (Instr.next (.pointer (some ⟨wo.heap.size, 0, none⟩)) true ty).run Tryd.prog (wo.iter ⟨#[120, 121, 122]⟩ 2) = .ok (.tuple #[.bool true, .int .i64 2, .int .i32 122]) (wo.iter ⟨#[120, 121, 122]⟩ 3) := next2 wo
          by_cases hE : W = []
          · have HLOW := Lib.hid ((low_of HW.out).1 hE)
            subst hE
            have hN2 := Lib.hid (no_low HLOW.out HN2.out (2 + 1))
            go_wp2
            go_roundw
            case rel => exact ⟨3, by omega, rfl, hN2.out⟩
            case measure => simp
          · have HLOW := Lib.hid (show 2 ≤ m from Nat.le_of_not_lt fun h => hE ((low_of HW.out).2 h))
            have hneq : ∀ w, (binOp .neq 9 (.string ⟨W.toArray⟩) (.string ⟨#[]⟩)).run Tryd.prog w = .ok (.bool true) w := ne_empty hE
            have hcat : (⟨W.toArray⟩ : ByteArray) ++ ⟨#[32]⟩ ++ (⟨#[120, 121, 122]⟩ : ByteArray).extract 2 3 = ⟨(W ++ [32, 122]).toArray⟩ := by rw [xyz2]; exact cat3 W 32 122
            have hWl : W.length ≤ 6 := word_len HW.out
            have hWe : W.isEmpty = false := by cases W with
              | nil => exact absurd rfl hE
              | cons _ _ => rfl
            cases hp : preB r (W ++ [32, 122])
            · have hN2 := Lib.hid (no_succ HLOW.out HLT.out (show 2 < 3 by omega) HW.out HN2.out hp)
              have HTK := Lib.hid (take_no k r (W ++ [32, 122]) (wo.iter ⟨#[120, 121, 122]⟩ 3) (HXo.out _) hp)
              clear hp
              go_wp2_with fail
              refine HTK.out.mono ?_
              rintro e w5 ⟨rfl, rfl⟩
              go_wp2
              go_roundw
              case rel => exact ⟨3, by omega, rfl, hN2.out⟩
              case measure => simp
            · have HH := Lib.hid (head_hit HLOW.out HLT.out (show 2 < 3 by omega) HW.out HN2.out hp)
              have HTK := Lib.hid (take_yes k r (W ++ [32, 122]) (wo.iter ⟨#[120, 121, 122]⟩ 3) (HXo.out _) hp)
              have HSET := Lib.hid ((HXo.out 3).set (r.drop (W ++ [32, 122]).length))
              have HG := Lib.hid (Lib.grownBy_setB (Lib.grownBy_below (World.grownBy.refl w (some k)) (HBi.out 3)) 0 (.string ⟨(r.drop (W ++ [32, 122]).length).toArray⟩) : w.grownBy _ (some k))
              clear hp
              go_wp2_with fail
              refine HTK.out.mono ?_
              rintro e w5 ⟨rfl, hw5⟩
              rw [← hw5] at HSET HG
              have HB5 := Lib.hid ((HBXi.out 3).grown (Lib.grownBy_setCell _ k 0 (.string ⟨(r.drop (W ++ [32, 122]).length).toArray⟩)) (by omega))
              rw [← hw5] at HB5
              clear hw5
              obtain ⟨f0, f1, f2, f3, f4, f5, f6⟩ := HB5.out.c
              obtain ⟨z0, z1, z2, z3, z4, z5, z6⟩ := HB5.out.f
              have hl5 := HB5.out.lt
              clear f0 f1 f2 f3 f4 f5 f6 z0 z1 z2 z3 z4 z5 z6
              go_wp2_with ((with_reducible refine at_store7 ?_); refine wpList_store7 (.mk (m : Int) 2 0 0 0 0 none 0 []) _ _ HB5.out rfl rfl rfl rfl ?_)
              obtain ⟨y0, y1, y2, y3, y4, y5, y6⟩ := (HB5.out.put (.mk (m : Int) 2 0 0 0 0 none 0 [])).c
              refine bodyPost_ret (v := .tuple #[valB (.mk (m : Int) 2 0 0 0 0 none 0 []), .bool true]) (by simp [results, Tryd.results90, go_sem, y0, y1, y2, y3, y4, y5, y6]) rfl ?_
              refine ⟨grown_then HG.out (putB_grown w5 w.heap.size _) (Nat.le_refl _), ?_⟩
              rw [HH.out]
              exact ⟨rfl, HSET.out.putB (by omega)⟩
        · have hnx : ∀ ty, (Instr.next (.pointer (some ⟨wo.heap.size, 0, none⟩)) true ty).run Tryd.prog (wo.iter ⟨#[120, 121, 122]⟩ 3) = .ok (.tuple #[.bool false]) (wo.iter ⟨#[120, 121, 122]⟩ 3) := next3 wo
          have HN3 := Lib.hid HN2.out
          rw [← jj_next HLT.out] at HN3
          have HB6 := Lib.hid (hB.alloc hB.size (.stringIter ⟨#[120, 121, 122]⟩ 3))
          go_wp2
          go_roundw
          case rel => exact ⟨m + 1, by have := HLT.out; omega, by go_num, HN3.out, HB6.out⟩
          case measure => simp [intOf]; omega
    · obtain rfl : m = 7 := by omega
      have hm7 := head_miss HN.out
      have HX7 := Lib.hid (HX.out.below hBw hk)
      have HG7 := Lib.hid (Lib.grownBy_below (World.grownBy.refl w (some k)) hBw)
      have HB7 := Lib.hid (HBX.out wo hB)
      obtain ⟨c0, c1⟩ := HX7.out.c
      have hl7 := HB7.out.lt
      have hk7 : k < wo.heap.size := by omega
      cases r with
      | nil =>
        have HM := Lib.hid hm7
        clear hm7
        go_wp2_with ((with_reducible refine at_store7 ?_); refine wpList_store7 zeroB _ _ HB7.out rfl rfl rfl rfl ?_)
        obtain ⟨y0, y1, y2, y3, y4, y5, y6⟩ := (HB7.out.put zeroB).c
        refine bodyPost_ret (v := .tuple #[valB zeroB, .bool false]) (by simp [results, Tryd.results90, go_sem, y0, y1, y2, y3, y4, y5, y6]) rfl ?_
        refine ⟨grown_then HG7.out (putB_grown wo w.heap.size _) (Nat.le_refl _), ?_⟩
        rw [HM.out]
        exact ⟨_, rfl, HX7.out.putB (by omega)⟩
      | cons c l =>
        have hidx : ∀ h, (⟨(c :: l).toArray⟩ : ByteArray)[0]'h = c := fun h => rfl
        have heq : ∀ w, (binOp .eql 9 (.string ⟨(c :: l).toArray⟩) (.string ⟨#[]⟩)).run Tryd.prog w = .ok (.bool false) w := eq_empty (by simp)
        by_cases hc : 97 ≤ c.toNat ∧ c.toNat ≤ 105
        · have HM := Lib.hid (hm7.trans (if_pos hc))
          have hlt1 : ((c.toNat : Int) < 97) = False := by simp; omega
          have hlt2 : ((105 : Int) < c.toNat) = False := by simp; omega
          clear hm7 hc
          have hx1 : (⟨(c :: l).toArray⟩ : ByteArray).extract 1 (l.length + 1) = ⟨l.toArray⟩ := by rw [ext_list]; simp
          obtain ⟨ws, hws⟩ : ∃ ws, wo.setCell ⟨k, 0, none⟩ (.string ⟨l.toArray⟩) = ws := ⟨_, rfl⟩
          have hx7 := HX7.out.set l
          have hb7 := HB7.out.grown (Lib.grownBy_setCell wo k 0 (.string ⟨l.toArray⟩)) (by omega)
          have hg7 := Lib.grownBy_setB HG7.out 0 (.string ⟨l.toArray⟩)
          rw [hws] at hx7 hb7 hg7
          have hbs : Below ws.heap.size ws (ws.alloc (.cells #[.int .i64 1, .int .i64 0, .int .u8 (c.toNat : Int), .int .i64 0, .int .i64 0, .int .i64 0, .slice none 0 0] 25)) := by (repeat (first | exact Below.refl _ _ | assumption | refine Below.alloc ?_ (by first | exact Nat.le_refl _ | exact Below.size (by assumption) | omega | (simp <;> omega)) _ | refine Below.setCell ?_ (by first | exact Nat.le_refl _ | exact Below.size (by assumption) | omega | (simp <;> omega)) _ | refine below_drewN ?_ _ | refine Below.drew ?_))
          have HSET := Lib.hid (hx7.below hbs hx7.lt)
          have HBZ := Lib.hid (hb7.below hbs hb7.lt)
          have HGZ := Lib.hid (Lib.grownBy_below hg7 hbs)
          rw [← hws] at HSET HBZ HGZ
          clear hx7 hb7 hg7 hbs hws
          go_wp2_with ((with_reducible refine at_store7 ?_); refine wpList_store7 (.mk 1 0 (c.toNat : Int) 0 0 0 none 0 []) _ _ HBZ.out rfl rfl rfl rfl ?_)
          obtain ⟨y0, y1, y2, y3, y4, y5, y6⟩ := (HBZ.out.put (.mk 1 0 (c.toNat : Int) 0 0 0 none 0 [])).c
          refine bodyPost_ret (v := .tuple #[valB (.mk 1 0 (c.toNat : Int) 0 0 0 none 0 []), .bool true]) (by simp [results, Tryd.results90, go_sem, y0, y1, y2, y3, y4, y5, y6]) rfl ?_
          refine ⟨grown_then HGZ.out (putB_grown _ w.heap.size _) (Nat.le_refl _), ?_⟩
          rw [HM.out]
          exact ⟨rfl, HSET.out.putB (by omega)⟩
        · have HM := Lib.hid (hm7.trans (if_neg hc))
          have hcc : c.toNat < 97 ∨ (97 ≤ c.toNat ∧ 105 < c.toNat) := by omega
          clear hm7 hc
          rcases hcc with hcc | ⟨hcc, hcd⟩
          · have hltI : (c.toNat : Int) < 97 := by omega
            go_wp2_with ((with_reducible refine at_store7 ?_); refine wpList_store7 zeroB _ _ HB7.out rfl rfl rfl rfl ?_)
            obtain ⟨y0, y1, y2, y3, y4, y5, y6⟩ := (HB7.out.put zeroB).c
            refine bodyPost_ret (v := .tuple #[valB zeroB, .bool false]) (by simp [results, Tryd.results90, go_sem, y0, y1, y2, y3, y4, y5, y6]) rfl ?_
            refine ⟨grown_then HG7.out (putB_grown wo w.heap.size _) (Nat.le_refl _), ?_⟩
            rw [HM.out]
            exact ⟨_, rfl, HX7.out.putB (by omega)⟩
          · have hltI : ¬ (c.toNat : Int) < 97 := by omega
            have hltJ : (105 : Int) < c.toNat := by omega
            go_wp2_with ((with_reducible refine at_store7 ?_); refine wpList_store7 zeroB _ _ HB7.out rfl rfl rfl rfl ?_)
            obtain ⟨y0, y1, y2, y3, y4, y5, y6⟩ := (HB7.out.put zeroB).c
            refine bodyPost_ret (v := .tuple #[valB zeroB, .bool false]) (by simp [results, Tryd.results90, go_sem, y0, y1, y2, y3, y4, y5, y6]) rfl ?_
            refine ⟨grown_then HG7.out (putB_grown wo w.heap.size _) (Nat.le_refl _), ?_⟩
            rw [HM.out]
            exact ⟨_, rfl, HX7.out.putB (by omega)⟩
end Go.Proofs.YtbcnkcndhgihaaaDoor

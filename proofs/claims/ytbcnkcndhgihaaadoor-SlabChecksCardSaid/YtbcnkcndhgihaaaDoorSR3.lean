/- Blocks: the reader: words, numbers, head: the walks. -/
import Derived.Test.YtbcnkcndhgihaaaDoorSR2
import Derived.Laws.RangeAny
namespace Go.Proofs.YtbcnkcndhgihaaaDoor
open Go.RowKit Go.Shelf
set_option linter.unusedSimpArgs false

def wordsL : List Bs := [[], [], [115, 116, 97, 99, 107], [116, 117, 114, 110], [115, 108, 105, 99, 101], [102, 108, 105, 112], [114, 101, 112, 101, 97, 116]]
def wordsB : List ByteArray := [⟨#[]⟩, ⟨#[]⟩, ⟨#[115, 116, 97, 99, 107]⟩, ⟨#[116, 117, 114, 110]⟩, ⟨#[115, 108, 105, 99, 101]⟩, ⟨#[102, 108, 105, 112]⟩, ⟨#[114, 101, 112, 101, 97, 116]⟩]
theorem words_any (w : World) : Calls Tryd.prog 99 #[] w fun e w' => e = .returned (.slice (some ⟨w.heap.size, 0, none⟩) 7 7) ∧ w' = w.alloc (.cells #[.string ⟨#[]⟩, .string ⟨#[]⟩, .string ⟨#[115, 116, 97, 99, 107]⟩, .string ⟨#[116, 117, 114, 110]⟩, .string ⟨#[115, 108, 105, 99, 101]⟩, .string ⟨#[102, 108, 105, 112]⟩, .string ⟨#[114, 101, 112, 101, 97, 116]⟩] 9) := by
  go_enter Tryd.func99, Tryd.ntmps99
  go_wp2
  go_ret
  exact ⟨rfl, rfl⟩
theorem words_cell (w : World) (m : Nat) (W : Bs) (h : wordsL[m]? = some W) : (w.alloc (.cells #[.string ⟨#[]⟩, .string ⟨#[]⟩, .string ⟨#[115, 116, 97, 99, 107]⟩, .string ⟨#[116, 117, 114, 110]⟩, .string ⟨#[115, 108, 105, 99, 101]⟩, .string ⟨#[102, 108, 105, 112]⟩, .string ⟨#[114, 101, 112, 101, 97, 116]⟩] 9)).cell? ⟨w.heap.size, m, none⟩ = some (.string ⟨W.toArray⟩) := by
  have hm : m < 7 := (List.getElem?_eq_some_iff.1 h).1
  match m, hm with
  | 0, _ => simp [wordsL] at h; subst h; simp
  | 1, _ => simp [wordsL] at h; subst h; simp
  | 2, _ => simp [wordsL] at h; subst h; simp
  | 3, _ => simp [wordsL] at h; subst h; simp
  | 4, _ => simp [wordsL] at h; subst h; simp
  | 5, _ => simp [wordsL] at h; subst h; simp
  | 6, _ => simp [wordsL] at h; subst h; simp
theorem numbers_any (o : Int) (w : World) : Calls Tryd.prog 91 #[.int .i64 o] w fun e w' => e = .returned (.int .i64 (nnum o : Int)) ∧ w' = w := by
  by_cases h1 : o = 1
  · subst h1
    go_enter Tryd.func91, Tryd.ntmps91
    go_wp2
    go_ret
    exact ⟨rfl, rfl⟩
  by_cases h4 : o = 4
  · subst h4
    go_enter Tryd.func91, Tryd.ntmps91
    go_wp2
    go_ret
    exact ⟨rfl, rfl⟩
  by_cases h6 : o = 6
  · subst h6
    go_enter Tryd.func91, Tryd.ntmps91
    go_wp2
    go_ret
    exact ⟨rfl, rfl⟩
  have HN : Hid (nnum o = 0) := by show _ = _; unfold nnum; rw [if_neg h1, if_neg h4, if_neg h6]
  have e1 : (o == 1) = false := by simpa using h1
  have e4 : (o == 4) = false := by simpa using h4
  have e6 : (o == 6) = false := by simpa using h6
  clear h1 h4 h6
  go_enter Tryd.func91, Tryd.ntmps91
  go_wp2
  go_ret
  exact ⟨by rw [HN.out]; rfl, rfl⟩
/-- Which prefix is tried. -/
def jj (m p : Nat) : Nat := if m < 2 then 0 else 3 * (m - 2) + p
theorem heads_at : ∀ m : Fin 7, 2 ≤ m.val → ∀ p : Fin 3, headsS[jj m.val p.val]? = some ((m.val : Int), (p.val : Int), (wordsL.getD m.val []) ++ [32, UInt8.ofNat (120 + p.val)]) := by decide
theorem words_low : ∀ m : Fin 7, (wordsL.getD m.val [] = [] ↔ m.val < 2) := by decide
theorem find_at {α : Type} {p : α → Bool} : ∀ {l : List α} {j : Nat} {x : α}, (∀ y ∈ l.take j, p y = false) → l[j]? = some x → p x = true → l.find? p = some x
  | [], j, x, _, h, _ => by simp at h
  | y :: l, 0, x, _, h, hp => by
    simp at h
    subst h
    rw [List.find?_cons_of_pos hp]
  | y :: l, j + 1, x, hn, h, hp => by
    rw [List.find?_cons_of_neg (by rw [hn y (by simp)]; simp)]
    exact find_at (fun z hz => hn z (by simp; exact .inr hz)) (by simpa using h) hp
theorem cat_list (a b : Bs) : (⟨a.toArray⟩ : ByteArray) ++ ⟨b.toArray⟩ = ⟨(a ++ b).toArray⟩ := by
  rw [ByteArray.ext_iff, ByteArray.data_append]
  simp
theorem setCell_same {w : World} {k : Nat} {r : Bs} (h : RdrX w k r) : w.setCell ⟨k, 0, none⟩ (.string ⟨r.toArray⟩) = w := by
  unfold RdrX at h
  obtain ⟨hk, hv⟩ := Array.getElem?_eq_some_iff.1 h
  have e : (w.setCell ⟨k, 0, none⟩ (.string ⟨r.toArray⟩)).heap = w.heap := by
    apply Array.ext_getElem?
    intro i
    simp only [World.setCell, Array.getElem?_modify]
    by_cases hi : k = i
    · subst hi
      simp [h]
    · simp [hi]
  cases w
  simp only [World.setCell] at e ⊢
  congr 1
theorem take_no (k : Nat) (r t : Bs) (w : World) (h : RdrX w k r) (hp : preB r t = false) : Calls Tryd.prog 94 #[.pointer (some ⟨k, 0, none⟩), .string ⟨t.toArray⟩] w fun e w' => e = .returned (.bool false) ∧ w' = w := by
  refine (take_any k r t w h).mono ?_
  rintro e w' ⟨rfl, rfl⟩
  rw [hp]
  refine ⟨rfl, ?_⟩
  rw [show tkS t r = r by unfold tkS; rw [hp]; rfl]
  exact setCell_same h
theorem take_yes (k : Nat) (r t : Bs) (w : World) (h : RdrX w k r) (hp : preB r t = true) : Calls Tryd.prog 94 #[.pointer (some ⟨k, 0, none⟩), .string ⟨t.toArray⟩] w fun e w' => e = .returned (.bool true) ∧ w' = w.setCell ⟨k, 0, none⟩ (.string ⟨(r.drop t.length).toArray⟩) := by
  refine (take_any k r t w h).mono ?_
  rintro e w' ⟨rfl, rfl⟩
  rw [hp, show tkS t r = r.drop t.length by unfold tkS; rw [hp]; rfl]
  exact ⟨rfl, rfl⟩
end Go.Proofs.YtbcnkcndhgihaaaDoor

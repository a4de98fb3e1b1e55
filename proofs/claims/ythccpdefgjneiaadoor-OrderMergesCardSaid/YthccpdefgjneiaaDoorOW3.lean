/- Words and currencies of both; Convert without rates; the law's sane: the walks. -/
import Derived.Test.YthccpdefgjneiaaDoorOW2
import Derived.Test.YthccpdefgjneiaaDoorTrim
import Derived.Maps.Own
namespace Go.Proofs.YthccpdefgjneiaaDoor
open Go.RowKit Go.Shelf Go.Maps

def isUp (b : UInt8) : Bool := decide (65 ≤ b.toNat) && decide (b.toNat ≤ 90)
def isDig (b : UInt8) : Bool := decide (48 ≤ b.toNat) && decide (b.toNat ≤ 57)
def curB (s : ByteArray) : Bool := decide (s.size = 3) && s.data.toList.all isUp
def wordB (s : ByteArray) : Bool := bet 1 s.size 12 && s.data.toList.all (fun b => isUp b || isDig b)
def upL : List UInt8 := [65, 66, 67, 68, 69, 70, 71, 72, 73, 74, 75, 76, 77, 78, 79, 80, 81, 82, 83, 84, 85, 86, 87, 88, 89, 90]
def wdL : List UInt8 := [65, 66, 67, 68, 69, 70, 71, 72, 73, 74, 75, 76, 77, 78, 79, 80, 81, 82, 83, 84, 85, 86, 87, 88, 89, 90, 48, 49, 50, 51, 52, 53, 54, 55, 56, 57]
theorem upL_iff (b : UInt8) : upL.contains b = isUp b := by
  have h : ∀ n : Fin 256, upL.contains (UInt8.ofNat n.1) = isUp (UInt8.ofNat n.1) := by decide +kernel
  have := h ⟨b.toNat, b.toNat_lt⟩
  simpa using this
theorem wdL_iff (b : UInt8) : wdL.contains b = (isUp b || isDig b) := by
  have h : ∀ n : Fin 256, wdL.contains (UInt8.ofNat n.1) = (isUp (UInt8.ofNat n.1) || isDig (UInt8.ofNat n.1)) := by decide +kernel
  have := h ⟨b.toNat, b.toNat_lt⟩
  simpa using this
theorem dropWhile_nil {α : Type} {p : α → Bool} : ∀ {l : List α}, l.dropWhile p = [] ↔ l.all p = true
  | [] => by simp
  | a :: l => by
    rw [List.dropWhile_cons, List.all_cons]
    cases h : p a
    · simp
    · simpa using dropWhile_nil (l := l)
theorem trimS_nil {l cs : List UInt8} : Lib.trimS l cs = [] ↔ l.all (fun b => cs.contains b) = true := by
  show (Lib.trimRightS l cs).dropWhile (fun b => cs.contains b) = [] ↔ _
  rw [dropWhile_nil]
  show (l.reverse.dropWhile (fun b => cs.contains b)).reverse.all _ = true ↔ _
  rw [List.all_reverse]
  have h : l.reverse.all (fun b => cs.contains b) = (l.reverse.dropWhile (fun b => cs.contains b)).all (fun b => cs.contains b) := by
    conv => lhs; rw [← List.takeWhile_append_dropWhile (p := fun b => cs.contains b) (l := l.reverse), List.all_append]
    rw [List.all_takeWhile, Bool.true_and]
  rw [← h, List.all_reverse]

set_option maxRecDepth 100000 in
set_option maxHeartbeats 1000000 in
theorem currency_any (s : ByteArray) (w : World) (hs : s.size ≤ 9223372036854775807) :
    Calls Tryd.prog 42 #[.string s] w (Ret (.bool (curB s)) w) := by
  have hcon := Any.strings_Trim_laid Tryd.lays160 (by kernel_rfl) s ⟨#[65, 66, 67, 68, 69, 70, 71, 72, 73, 74, 75, 76, 77, 78, 79, 80, 81, 82, 83, 84, 85, 86, 87, 88, 89, 90]⟩ w hs (by decide) (ascii_of_all (by decide))
  change Calls Tryd.prog 77 _ _ (fun e w' => e = .returned (.string ⟨(Lib.trimS s.data.toList upL).toArray⟩) ∧ Below w.heap.size w w') at hcon
  obtain ⟨r, hr⟩ : ∃ r : ByteArray, (⟨(Lib.trimS s.data.toList upL).toArray⟩ : ByteArray) = r := ⟨_, rfl⟩
  rw [hr] at hcon
  have HC := Lib.hid hcon; clear hcon
  by_cases h3 : s.size = 3
  · have h3I : ((s.size : Int) == 3) = true := by simp [h3]
    go_enter Tryd.func42, Tryd.ntmps42
    go_wp2_with fail
    refine HC.out.mono ?_
    rintro e w2 ⟨rfl, hB⟩
    go_wp2
    go_ret
    refine Ret.mk ?_ hB
    have e : r.toList = Lib.trimS s.data.toList upL := by rw [← hr, Lib.toList_data]
    have e2 : r.toList.isEmpty = s.data.toList.all isUp := by
      rw [e, Bool.eq_iff_iff, List.isEmpty_iff, trimS_nil]
      rw [show (fun b => upL.contains b) = isUp from funext upL_iff]
    unfold curB
    rw [e2]
    simp [h3]
  · have h3I : ((s.size : Int) == 3) = false := by simp; omega
    go_enter Tryd.func42, Tryd.ntmps42
    go_wp2_with fail
    go_ret
    exact Ret.mk (by unfold curB; simp [h3]) (Below.refl _ _)
theorem byte_get {s : ByteArray} {k : Nat} (h : k < s.size) : s.data.toList[k]? = some (s[k]'h) := by
  rw [List.getElem?_eq_getElem (by simpa using h)]
  rfl
theorem size_len (s : ByteArray) : s.data.toList.length = s.size := by rw [Array.length_toList]; rfl
theorem up_false {b : UInt8} (h : isUp b = false) : ¬ ((65 : Int) ≤ (b.toNat : Int) ∧ (b.toNat : Int) ≤ 90) := by
  unfold isUp at h
  simp only [Bool.and_eq_false_iff, decide_eq_false_iff_not] at h
  omega
theorem up_true {b : UInt8} (h : isUp b = true) : (65 : Int) ≤ (b.toNat : Int) ∧ (b.toNat : Int) ≤ 90 := by
  unfold isUp at h
  simp only [Bool.and_eq_true, decide_eq_true_eq] at h
  omega
theorem dig_false {b : UInt8} (h : isDig b = false) : ¬ ((48 : Int) ≤ (b.toNat : Int) ∧ (b.toNat : Int) ≤ 57) := by
  unfold isDig at h
  simp only [Bool.and_eq_false_iff, decide_eq_false_iff_not] at h
  omega
theorem dig_true {b : UInt8} (h : isDig b = true) : (48 : Int) ≤ (b.toNat : Int) ∧ (b.toNat : Int) ≤ 57 := by
  unfold isDig at h
  simp only [Bool.and_eq_true, decide_eq_true_eq] at h
  omega
theorem all_snoc {l : List UInt8} {p : UInt8 → Bool} {k : Nat} {b : UInt8} (h : ∀ x ∈ l.take k, p x = true) (hb : l[k]? = some b) (hp : p b = true) : ∀ x ∈ l.take (k + 1), p x = true := by
  intro x hx
  rw [take_succ_of hb] at hx
  rcases List.mem_append.1 hx with hx | hx
  · exact h x hx
  · simp at hx; subst hx; exact hp

set_option maxRecDepth 100000 in
set_option maxHeartbeats 1000000 in
theorem isCurrency_any (s : ByteArray) (w : World) (hs : s.size ≤ 9223372036854775807) :
    Calls Tryd.prog 48 #[.string s] w (Ret (.bool (curB s)) w) := by
  go_enter Tryd.func48, Tryd.ntmps48
  go_wp2
  go_loopw [3] (fun i wr => ∃ k : Nat, k ≤ s.size ∧ i = .int .i64 k ∧ (∀ b ∈ s.data.toList.take k, isUp b = true) ∧ wr = w) (fun i _ => s.size - (intOf i).toNat)
  case atStart => exact ⟨0, Nat.zero_le _, rfl, fun x hx => by simp at hx, rfl⟩
  case round =>
    obtain ⟨k, hk, rfl, hgood, rfl⟩ := hrel
    have HG := Lib.hid hgood; clear hgood
    by_cases hlt : k < s.size
    · obtain ⟨b, hb⟩ : ∃ b, s[k]'hlt = b := ⟨_, rfl⟩
      have hget := byte_get hlt
      rw [hb] at hget
      have HGET := Lib.hid hget; clear hget
      cases hu : isUp b
      · have hn := up_false hu
        have HS := Lib.hid (show curB s = false by unfold curB; rw [show s.data.toList.all isUp = false from List.all_eq_false.2 ⟨b, List.mem_of_getElem? HGET.out, by rw [hu]; simp⟩]; simp)
        clear hu
        go_wp2
        all_goals first | (exfalso; omega) | skip
        all_goals
          go_ret
          exact Ret.mk (by rw [HS.out] <;> rfl) (Below.refl _ _)
      · have hn := up_true hu
        have HU := Lib.hid hu; clear hu
        have hn1 : ¬ (b.toNat : Int) < 65 := by omega
        have hn2 : ¬ (90 : Int) < (b.toNat : Int) := by omega
        go_wp2
        go_roundw
        case rel => exact ⟨k + 1, by omega, by go_num, all_snoc HG.out HGET.out HU.out, trivial⟩
        case measure => simp [intOf]; omega
    · obtain rfl : k = s.size := by omega
      have hall : s.data.toList.all isUp = true := by
        rw [List.all_eq_true]
        intro x hx
        exact HG.out x (by rw [List.take_of_length_le (by rw [size_len]; exact Nat.le_refl _)]; exact hx)
      have HS := Lib.hid (show curB s = decide (s.size = 3) by unfold curB; rw [hall, Bool.and_true])
      clear hall
      by_cases h3 : s.size = 3
      · have h3I : ((s.size : Int) == 3) = true := by simp [h3]
        go_wp2
        go_ret
        exact Ret.mk (by rw [HS.out]; simp [h3]) (Below.refl _ _)
      · have h3I : ((s.size : Int) == 3) = false := by simp; omega
        go_wp2
        go_ret
        exact Ret.mk (by rw [HS.out]; simp [h3]) (Below.refl _ _)

set_option maxRecDepth 100000 in
set_option maxHeartbeats 1000000 in
theorem word_any (s : ByteArray) (w : World) (hs : s.size ≤ 9223372036854775807) :
    Calls Tryd.prog 62 #[.string s] w (Ret (.bool (wordB s)) w) := by
  have hcon := Any.strings_Trim_laid Tryd.lays160 (by kernel_rfl) s ⟨#[65, 66, 67, 68, 69, 70, 71, 72, 73, 74, 75, 76, 77, 78, 79, 80, 81, 82, 83, 84, 85, 86, 87, 88, 89, 90, 48, 49, 50, 51, 52, 53, 54, 55, 56, 57]⟩ w hs (by decide) (ascii_of_all (by decide))
  change Calls Tryd.prog 77 _ _ (fun e w' => e = .returned (.string ⟨(Lib.trimS s.data.toList wdL).toArray⟩) ∧ Below w.heap.size w w') at hcon
  obtain ⟨r, hr⟩ : ∃ r : ByteArray, (⟨(Lib.trimS s.data.toList wdL).toArray⟩ : ByteArray) = r := ⟨_, rfl⟩
  rw [hr] at hcon
  have HC := Lib.hid hcon; clear hcon
  cases h3 : bet 1 (s.size : Int) 12
  · have H3 := Lib.hid h3; clear h3
    go_enter Tryd.func62, Tryd.ntmps62
    go_wp2_with fail
    refine (bet_any 1 (s.size : Int) 12 _).mono ?_
    rintro e w2 ⟨rfl, rfl⟩
    rw [H3.out]
    go_wp2_with fail
    go_ret
    exact Ret.mk (by unfold wordB; rw [H3.out]; rfl) (Below.refl _ _)
  · have H3 := Lib.hid h3; clear h3
    go_enter Tryd.func62, Tryd.ntmps62
    go_wp2_with fail
    refine (bet_any 1 (s.size : Int) 12 _).mono ?_
    rintro e w2 ⟨rfl, rfl⟩
    rw [H3.out]
    go_wp2_with fail
    refine HC.out.mono ?_
    rintro e w3 ⟨rfl, hB⟩
    go_wp2
    go_ret
    refine Ret.mk ?_ hB
    have e : r.toList = Lib.trimS s.data.toList wdL := by rw [← hr, Lib.toList_data]
    have e2 : r.toList.isEmpty = s.data.toList.all (fun b => isUp b || isDig b) := by
      rw [e, Bool.eq_iff_iff, List.isEmpty_iff, trimS_nil]
      rw [show (fun b => wdL.contains b) = (fun b => isUp b || isDig b) from funext wdL_iff]
    unfold wordB
    rw [e2, H3.out]
    rfl
set_option maxRecDepth 100000 in
set_option maxHeartbeats 1000000 in
theorem isWord_any (s : ByteArray) (w : World) (hs : s.size ≤ 9223372036854775807) :
    Calls Tryd.prog 64 #[.string s] w (Ret (.bool (wordB s)) w) := by
  go_enter Tryd.func64, Tryd.ntmps64
  go_wp2
  go_loopw [3] (fun i wr => ∃ k : Nat, k ≤ s.size ∧ i = .int .i64 k ∧ (∀ b ∈ s.data.toList.take k, (isUp b || isDig b) = true) ∧ wr = w) (fun i _ => s.size - (intOf i).toNat)
  case atStart => exact ⟨0, Nat.zero_le _, rfl, fun x hx => by simp at hx, rfl⟩
  case round =>
    obtain ⟨k, hk, rfl, hgood, rfl⟩ := hrel
    have HG := Lib.hid hgood; clear hgood
    by_cases hlt : k < s.size
    · obtain ⟨b, hb⟩ : ∃ b, s[k]'hlt = b := ⟨_, rfl⟩
      have hget := byte_get hlt
      rw [hb] at hget
      have HGET := Lib.hid hget; clear hget
      cases hu : (isUp b || isDig b)
      · have hn : ¬ ((65 : Int) ≤ (b.toNat : Int) ∧ (b.toNat : Int) ≤ 90) ∧ ¬ ((48 : Int) ≤ (b.toNat : Int) ∧ (b.toNat : Int) ≤ 57) := by
          rw [Bool.or_eq_false_iff] at hu
          exact ⟨up_false hu.1, dig_false hu.2⟩
        have HS := Lib.hid (show wordB s = false by unfold wordB; rw [show s.data.toList.all (fun b => isUp b || isDig b) = false from List.all_eq_false.2 ⟨b, List.mem_of_getElem? HGET.out, by rw [hu]; simp⟩]; simp)
        clear hu
        have HN := Lib.hid hn; clear hn
        go_wp2
        all_goals first | (exfalso; have := HN.out; omega) | skip
        all_goals
          go_ret
          exact Ret.mk (by rw [HS.out] <;> rfl) (Below.refl _ _)
      · have hn : ((65 : Int) ≤ (b.toNat : Int) ∧ (b.toNat : Int) ≤ 90) ∨ ((48 : Int) ≤ (b.toNat : Int) ∧ (b.toNat : Int) ≤ 57) := by
          rcases (Bool.or_eq_true _ _ ▸ hu) with h | h
          · exact .inl (up_true h)
          · exact .inr (dig_true h)
        have HU := Lib.hid hu; clear hu
        have HN := Lib.hid hn; clear hn
        go_wp2
        all_goals first | (exfalso; have := HN.out; omega) | skip
        all_goals
          go_roundw
          case rel => exact ⟨k + 1, by omega, by go_num, all_snoc HG.out HGET.out HU.out, trivial⟩
          case measure => simp [intOf]; omega
    · obtain rfl : k = s.size := by omega
      have hall : s.data.toList.all (fun b => isUp b || isDig b) = true := by
        rw [List.all_eq_true]
        intro x hx
        exact HG.out x (by rw [List.take_of_length_le (by rw [size_len]; exact Nat.le_refl _)]; exact hx)
      have HS := Lib.hid (show wordB s = bet 1 s.size 12 by unfold wordB; rw [hall, Bool.and_true])
      clear hall
      go_wp2
      all_goals
        go_ret
        exact Ret.mk (by rw [HS.out]; simp [bet]; omega) (Below.refl _ _)

theorem onceR_nil (c : Nat) (F : Value) (w : World) : Calls Tryd.prog 66 #[.slice none 0 c, F] w (Ret (.bool true) w) := by
  have hmm := @run_makeMap Tryd.prog
  go_enter Tryd.func66, Tryd.ntmps66
  go_wp2
  refine wp_loop_rounds 1 ?_
  rw [rounds_succ]
  go_wp2
  go_ret
  exact Ret.mk rfl (by (repeat (first | exact Below.refl _ _ | assumption | refine Below.alloc ?_ (by first | exact Nat.le_refl _ | exact Below.size (by assumption) | omega | (simp <;> omega)) _ | refine Below.setCell ?_ (by first | exact Nat.le_refl _ | exact Below.size (by assumption) | omega | (simp <;> omega)) _ | refine below_drewN ?_ _ | refine Below.drew ?_)))
theorem contR_nil (c : Nat) (F : Value) (w : World) : Calls Tryd.prog 67 #[.slice none 0 c, F] w (Ret (.bool false) w) := by
  go_enter Tryd.func67, Tryd.ntmps67
  go_wp2
  refine wp_loop_rounds 1 ?_
  rw [rounds_succ]
  go_wp2
  go_ret
  exact Ret.mk rfl (Below.refl _ _)
theorem validRates_nil (w : World) : Calls Tryd.prog 27 #[.slice none 0 0] w (Ret (.bool true) w) := by
  go_enter Tryd.func27, Tryd.ntmps27
  go_wp2_with fail
  refine (onceR_nil _ _ _).mono ?_
  rintro e w2 ⟨rfl, hb2⟩
  go_wp2_with fail
  refine (contR_nil _ _ _).mono ?_
  rintro e w3 ⟨rfl, hb3⟩
  go_wp2
  go_ret
  exact Ret.mk rfl (hb2.trans (hb3.mono hb2.size))
theorem eur_cur : curB ⟨#[69, 85, 82]⟩ = true := by decide +kernel
theorem convert_nil (w : World) : Calls Tryd.prog 15 #[.slice none 0 0, .string ⟨#[69, 85, 82]⟩, .int .i64 0, .int .i64 7] w (Ret (.tuple #[.int .i64 7, .int .i64 0]) w) := by
  have HE := Lib.hid eur_cur
  go_enter Tryd.func15, Tryd.ntmps15
  go_wp2_with fail
  refine (validRates_nil _).mono ?_
  rintro e w2 ⟨rfl, hb2⟩
  go_wp2_with fail
  refine (currency_any _ _ (by decide)).mono ?_
  rintro e w3 ⟨rfl, hb3⟩
  rw [HE.out]
  have hb23 := hb2.trans (hb3.mono hb2.size)
  go_wp2_with fail
  refine (day_any 0 _).mono ?_
  rintro e w4 ⟨rfl, rfl⟩
  rw [show dayB 0 = true by decide]
  go_wp2_with fail
  refine (amount_any 7 _).mono ?_
  rintro e w5 ⟨rfl, rfl⟩
  rw [show amt 7 = true by decide]
  go_wp2_with fail
  go_ret2
  exact Ret.mk rfl hb23
theorem split3 : splitS 100 [1, 1, 1] = ([33, 33, 34], 0) := by decide +kernel
set_option maxRecDepth 100000 in
set_option maxHeartbeats 1000000 in
theorem sane_any (w : World) : Calls Tryd.prog 14 #[] w (Ret (.bool true) w) := by
  obtain ⟨w0, hw0⟩ : ∃ w0, w.alloc (.cells #[.int .i64 1, .int .i64 1, .int .i64 1] 3) = w0 := ⟨_, rfl⟩
  have hB0 : Below w.heap.size w w0 := by rw [← hw0]; (repeat (first | exact Below.refl _ _ | assumption | refine Below.alloc ?_ (by first | exact Nat.le_refl _ | exact Below.size (by assumption) | omega | (simp <;> omega)) _ | refine Below.setCell ?_ (by first | exact Nat.le_refl _ | exact Below.size (by assumption) | omega | (simp <;> omega)) _ | refine below_drewN ?_ _ | refine Below.drew ?_))
  have hz0 : w0.heap.size = w.heap.size + 1 := by rw [← hw0]; simp
  have hr0 : RdI w0 w0.heap.size (some ⟨w.heap.size, 0, none⟩) [1, 1, 1] := by
    intro i v hv
    refine ⟨_, _, rfl, by omega, ?_⟩
    rw [← hw0]
    match i, hv with
    | 0, hv => simp at hv; subst hv; simp
    | 1, hv => simp at hv; subst hv; simp
    | 2, hv => simp at hv; subst hv; simp
    | i + 3, hv => simp at hv
  have HR := Lib.hid hr0; clear hr0
  have HW := Lib.hid hw0; clear hw0
  go_enter Tryd.func14, Tryd.ntmps14
  go_wp2_with fail
  rw [HW.out]
  refine (Split_any (some ⟨w.heap.size, 0, none⟩) 3 100 [1, 1, 1] w0 HR.out).mono ?_
  rintro e w1 ⟨A1, c1, rfl, hr1, _, hb1⟩
  rw [split3] at hr1 ⊢
  have HR1 := Lib.hid hr1; clear hr1
  have hB1 := hB0.trans (hb1.mono hB0.size)
  go_wp2_with fail
  refine (convert_nil _).mono ?_
  rintro e w2 ⟨rfl, hb2⟩
  have hB2 := hB1.trans (hb2.mono hB1.size)
  have hr2 := HR1.out.now hb2
  obtain ⟨b1, off, hA, hbb, d0⟩ := hr2 0 33 rfl
  obtain ⟨b2, off2, hA2, hbb2, d2⟩ := hr2 2 34 rfl
  subst hA
  obtain ⟨rfl, rfl⟩ : b1 = b2 ∧ off = off2 := by simpa using hA2
  clear hr2
  rw [Nat.add_zero] at d0
  go_wp2
  go_ret
  exact Ret.mk rfl hB2
end Go.Proofs.YthccpdefgjneiaaDoor

/- Blocks: the text of a recipe: plain facts about the reader. -/
import Derived.Test.YtbcnkcndhgihaaaDoorSPar
import Derived.Lib.Atoi
import Derived.Lib.SlTrimSet
namespace Go.Proofs.YtbcnkcndhgihaaaDoor
open Go.RowKit

def digL : Bs := [48, 49, 50, 51, 52, 53, 54, 55, 56, 57]
theorem dig_mem (c : UInt8) : digL.contains c = digB c := by
  have h : ∀ n : Fin 256, digL.contains (UInt8.ofNat n.val) = digB (UInt8.ofNat n.val) := by decide +kernel
  have := h ⟨c.toNat, c.toNat_lt⟩
  rwa [UInt8.ofNat_toNat] at this
theorem trim_dig (r : Bs) : Lib.trimLeftS r digL = r.drop (digitsS r).length := by
  unfold Lib.trimLeftS digitsS
  have e : (fun x => digL.contains x) = digB := funext dig_mem
  rw [e]
  induction r with
  | nil => rfl
  | cons c r ih =>
    rw [List.dropWhile_cons, List.takeWhile_cons]
    cases digB c
    · rfl
    · simpa using ih
theorem dig_len (r : Bs) : (digitsS r).length ≤ r.length := by
  unfold digitsS
  exact (List.takeWhile_prefix _).length_le
theorem dig_take (r : Bs) : r.take (digitsS r).length = digitsS r := by
  unfold digitsS
  exact (List.prefix_iff_eq_take.1 (List.takeWhile_prefix _)).symm
theorem dig_all (r : Bs) : ∀ c ∈ digitsS r, digB c = true := fun c hc => by
  unfold digitsS at hc
  induction r with
  | nil => simp at hc
  | cons d r ih =>
    rw [List.takeWhile_cons] at hc
    split at hc
    · rcases List.mem_cons.1 hc with rfl | hc
      · assumption
      · exact ih hc
    · simp at hc
theorem decFrom_dig : ∀ (l : Bs) (a : Nat), (∀ c ∈ l, digB c = true) → Lib.decFrom a l = some (l.foldl (fun n c => n * 10 + (c.toNat - 48)) a)
  | [], a, _ => rfl
  | c :: l, a, h => by
    have hc := h c (by simp)
    unfold digB at hc
    simp at hc
    unfold Lib.decFrom Lib.digitVal
    rw [if_pos hc, List.foldl_cons]
    exact decFrom_dig l _ fun d hd => h d (by simp [hd])
theorem valD_nat : ∀ (l : Bs) (a : Nat), (∀ c ∈ l, digB c = true) → l.foldl (fun (n : Int) c => 10 * n + ((c.toNat : Int) - 48)) (a : Int) = ((l.foldl (fun n c => n * 10 + (c.toNat - 48)) a : Nat) : Int)
  | [], a, _ => rfl
  | c :: l, a, h => by
    have hc := h c (by simp)
    unfold digB at hc
    simp at hc
    rw [List.foldl_cons, List.foldl_cons, ← valD_nat l _ fun d hd => h d (by simp [hd])]
    congr 1
    omega
theorem atoi_dig {l : Bs} (h : ∀ c ∈ l, digB c = true) (hn : l ≠ []) : Lib.atoi l = some (valD l) := by
  cases l with
  | nil => exact absurd rfl hn
  | cons c l =>
    have hc := h c (by simp)
    unfold digB at hc
    simp at hc
    have h1 : (c == 45) = false := by
      rw [beq_eq_false_iff_ne]
      rintro rfl
      revert hc; decide
    have h2 : (c == 43) = false := by
      rw [beq_eq_false_iff_ne]
      rintro rfl
      revert hc; decide
    unfold Lib.atoi
    simp only [h1, h2, Bool.false_eq_true, if_false]
    unfold Lib.decNat
    rw [List.isEmpty_cons, if_neg (by simp), decFrom_dig _ _ h, Option.map_some]
    unfold valD
    have := valD_nat (c :: l) 0 h
    rw [show ((0 : Nat) : Int) = 0 from rfl] at this
    rw [this]
theorem take_len {t r r1 : Bs} (h : takeS t r = some r1) : r1.length + t.length = r.length ∧ r1 = r.drop t.length := by
  unfold takeS at h
  split at h
  · rename_i hp
    injection h with h
    subst h
    have := (List.isPrefixOf_iff_prefix.1 hp).length_le
    refine ⟨?_, rfl⟩
    rw [List.length_drop]
    omega
  · cases h
theorem num_len {r r1 : Bs} {n : Int} (h : numS r = some (n, r1)) : r1.length ≤ r.length := by
  unfold numS at h
  cases ht : takeS [32] r with
  | none => rw [ht] at h; cases h
  | some r2 =>
    rw [ht] at h
    have := (take_len ht).1
    simp only at h
    unfold num1S at h
    split at h
    · cases h
    · injection h with h
      injection h with _ h
      subst h
      rw [List.length_drop]
      omega
theorem head_len {r r1 : Bs} {op ax co : Int} (h : headS r = some (op, ax, co, r1)) : r1.length < r.length := by
  unfold headS at h
  split at h
  · rename_i x hx
    have hm := List.mem_of_find?_eq_some hx
    have hp := List.find?_some hx
    have := (List.isPrefixOf_iff_prefix.1 hp).length_le
    have hl : 1 ≤ x.2.2.length := by
      have : ∀ y ∈ headsS, 1 ≤ y.2.2.length := by decide
      exact this x hm
    injection h with h
    injection h with _ h
    injection h with _ h
    injection h with _ h
    subst h
    rw [List.length_drop]
    omega
  · split at h
    · cases h
    · split at h
      · injection h with h
        injection h with _ h
        injection h with _ h
        injection h with _ h
        subst h
        simp
      · cases h
end Go.Proofs.YtbcnkcndhgihaaaDoor

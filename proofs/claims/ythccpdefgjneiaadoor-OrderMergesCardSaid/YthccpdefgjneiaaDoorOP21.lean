/- OrderTurns: the plain law. -/
import Derived.Test.YthccpdefgjneiaaDoorOP17
namespace Go.Proofs.YthccpdefgjneiaaDoor
open Go.RowKit Go.Shelf Go.Maps

def rotL {α : Type} (L : List α) (T : Nat) : List α := L.drop (T % L.length) ++ L.take (T % L.length)
theorem rot_perm {α : Type} (L : List α) (T : Nat) : (rotL L T).Perm L := by
  unfold rotL
  have h := List.perm_append_comm (l₁ := L.drop (T % L.length)) (l₂ := L.take (T % L.length))
  rwa [List.take_append_drop] at h
theorem rot_len {α : Type} (L : List α) (T : Nat) : (rotL L T).length = L.length := (rot_perm L T).length_eq
theorem rot_get {α : Type} (L : List α) (T : Nat) {k : Nat} (hk : k < L.length) : (rotL L T)[k]? = L[(k + T) % L.length]? := by
  unfold rotL
  have hr := Nat.mod_lt T (show 0 < L.length by omega)
  have hm : (k + T) % L.length = (k + T % L.length) % L.length := by simp [Nat.add_mod]
  obtain ⟨r, hrr⟩ : ∃ r, T % L.length = r := ⟨_, rfl⟩
  rw [hrr] at hm hr ⊢
  rw [hm]
  by_cases h : k + r < L.length
  · rw [Nat.mod_eq_of_lt h, List.getElem?_append_left (by rw [List.length_drop]; omega), List.getElem?_drop]
    congr 1; omega
  · have e : (k + r) % L.length = k + r - L.length := by rw [Nat.mod_eq_sub_mod (by omega), Nat.mod_eq_of_lt (by omega)]
    rw [e, List.getElem?_append_right (by rw [List.length_drop]; omega), List.length_drop, List.getElem?_take, if_pos (by omega)]
    congr 1; omega
def sumM (l : List GT) (m : ByteArray) : Int := (l.map fun g => if g.m = m then g.n else 0).sum
theorem sum_perm {l l' : List Int} (h : l.Perm l') : l.sum = l'.sum := by
  induction h with
  | nil => rfl
  | cons x _ ih => simp [ih]
  | swap x y l => simp; omega
  | trans _ _ h1 h2 => rw [h1, h2]
theorem ofM_go (m : ByteArray) : ∀ (l : List GT) (s : Int), (∀ g ∈ l, 1 ≤ g.n ∧ g.n ≤ 1000) → 0 ≤ s → s + 1000 * (l.length : Int) ≤ 1000000000 → l.foldl (fun s g => if g.m = m then wrap64 (s + g.n) else s) s = s + sumM l m
  | [], s, _, _, _ => by unfold sumM; simp
  | g :: l, s, h, h0, h1 => by
    have hg := h g List.mem_cons_self
    simp only [List.length_cons] at h1
    push_cast at h1
    rw [List.foldl_cons]
    by_cases e : g.m = m
    · rw [if_pos e, w64_id (by omega) (by omega), ofM_go m l (s + g.n) (fun x hx => h x (List.mem_cons_of_mem _ hx)) (by omega) (by omega)]
      unfold sumM; rw [List.map_cons, List.sum_cons, if_pos e]; omega
    · rw [if_neg e, ofM_go m l s (fun x hx => h x (List.mem_cons_of_mem _ hx)) h0 (by omega)]
      unfold sumM; rw [List.map_cons, List.sum_cons, if_neg e]; omega
theorem form_lines {f : FT} (h : validFS f = true) : f.ls.length ≤ 40 ∧ ∀ g ∈ f.ls, lineB g = true := by
  unfold validFS at h
  simp only [Bool.and_eq_true, List.all_eq_true] at h
  have := bet_iff.1 h.2.2.2.2
  exact ⟨by omega, h.1⟩
theorem ofM_sum {f : FT} (h : validFS f = true) (m : ByteArray) : ofM f.ls m = sumM f.ls m := by
  obtain ⟨h1, h2⟩ := form_lines h
  unfold ofM
  rw [ofM_go m f.ls 0 (fun g hg => (line_nums (h2 g hg)).2.2.2.2.2) (by omega) (by omega)]; omega
theorem sumM_perm {l l' : List GT} (h : l.Perm l') (m : ByteArray) : sumM l m = sumM l' m := sum_perm (h.map _)
/-- A form with its lines in another order. -/
def withL (f : FT) (A : Option Addr) (c : Nat) (M : List GT) : FT := ⟨f.cu, f.d, f.cr, A, c, M⟩
theorem valid_with {f : FT} {A : Option Addr} {c : Nat} {M : List GT} (h : M.Perm f.ls) : validFS (withL f A c M) = validFS f := by
  unfold validFS withL
  dsimp only
  rw [h.length_eq]
  have : M.all lineB = f.ls.all lineB := by
    rw [Bool.eq_iff_iff]
    simp only [List.all_eq_true]
    exact ⟨fun hh x hx => hh x (h.mem_iff.2 hx), fun hh x hx => hh x (h.mem_iff.1 hx)⟩
  rw [this]
theorem check_with {lp : List QT} {lr : List RT} {f : FT} {A : Option Addr} {c : Nat} {M : List GT} (h : M.Perm f.ls) : checkE lp lr (withL f A c M) = checkE lp lr f := by unfold checkE; rw [valid_with h]
theorem lineG_with {lp : List QT} {lr : List RT} {f : FT} {A : Option Addr} {c : Nat} {M : List GT} (h : M.Perm f.ls) (hv : validFS f = true) (x : GT) : lineG lp lr (withL f A c M) x = lineG lp lr f x := by
  have e : ofM (withL f A c M).ls x.m = ofM f.ls x.m := by
    rw [ofM_sum ((valid_with h).trans hv), ofM_sum hv]; exact sumM_perm h _
  unfold lineG
  rw [e]; rfl
theorem line_rot {lp : List QT} {lr : List RT} {f : FT} {A : Option Addr} {c T k : Nat} (hc : checkE lp lr f = 0) (hk : k < f.ls.length) : lineK lp lr (withL f A c (rotL f.ls T)) k = lineK lp lr f ((k + T) % f.ls.length) := by
  have hp := rot_perm f.ls T
  have hj := Nat.mod_lt (k + T) (show 0 < f.ls.length by omega)
  obtain ⟨x, hx⟩ := getElem?_of_lt hj
  have hg : (withL f A c (rotL f.ls T)).ls[k]? = some x := (rot_get f.ls T hk).trans hx
  unfold lineK
  rw [lineV_get ((check_with hp).trans hc) hg, lineV_get hc hx, lineG_with hp (check_form hc).2.2]
theorem firstE_iff {lp : List QT} {lr : List RT} {f : FT} : ∀ n, firstE lp lr f n = 0 ↔ ∀ k, k < n → (lineK lp lr f k).2 = 0
  | 0 => by unfold firstE; simp
  | n + 1 => by
    have ih := firstE_iff (lp := lp) (lr := lr) (f := f) n
    constructor
    · intro h k hk
      unfold firstE at h
      split at h
      · next h1 =>
        by_cases e : k = n
        · subst e; exact h
        · exact ih.1 h1 k (by omega)
      · next h1 => exact absurd h h1
    · intro h
      exact firstE_zero (ih.2 fun k hk => h k (by omega)) (h n (by omega))
theorem conv_amt {l : List RT} {s : ByteArray} {day am : Int} {r : Int × Int} (hr : convS l s day am = r) (h : r.2 = 0) : amt r.1 = true := by
  unfold convS at hr
  split at hr
  · split at hr
    · next h2 =>
      simp only [Bool.and_eq_true] at h2
      unfold convV at hr
      split at hr
      · subst hr; exact h2.2.2
      · split at hr
        · subst hr; simp at h
        · split at hr
          · next h4 => subst hr; exact h4
          · subst hr; simp at h
    · subst hr; simp at h
  · subst hr; simp at h
theorem line_amt {lp : List QT} {lr : List RT} {f : FT} {k : Nat} (h : (lineK lp lr f k).2 = 0) : amt (lineK lp lr f k).1 = true := by
  obtain ⟨r, hr⟩ : ∃ r, lineK lp lr f k = r := ⟨_, rfl⟩
  rw [hr] at h ⊢
  unfold lineK lineV at hr
  split at hr
  · split at hr
    · split at hr
      · subst hr; simp at h
      · unfold lineG at hr
        split at hr
        · exact conv_amt hr h
        · next h3 => subst hr; exact absurd h h3
    · subst hr; simp at h
  · next h1 => subst hr; exact absurd h h1
theorem wsum_go : ∀ (l : List Int) (s : Int), (∀ x ∈ l, amt x = true) → -1000000000000000000 ≤ s - 1099511627776 * (l.length : Int) → s + 1099511627776 * (l.length : Int) ≤ 1000000000000000000 → l.foldl (fun s n => wrap64 (s + n)) s = s + l.sum
  | [], s, _, _, _ => by simp
  | x :: l, s, h, h0, h1 => by
    have hx := bet_iff.1 (h x List.mem_cons_self)
    simp only [List.length_cons] at h0 h1
    push_cast at h0 h1
    rw [List.foldl_cons, w64_id (by omega) (by omega), wsum_go l (s + x) (fun y hy => h y (List.mem_cons_of_mem _ hy)) (by omega) (by omega), List.sum_cons]
    omega
theorem wsum_eq {l : List Int} (h : ∀ x ∈ l, amt x = true) (hl : l.length ≤ 40) : wsum l = l.sum := by
  unfold wsum
  rw [wsum_go l 0 h (by omega) (by omega)]; omega
theorem invA_get {lp : List QT} {lr : List RT} {f : FT} {n k : Nat} (hk : k < n) : (invA lp lr f n)[k]? = some (lineK lp lr f k).1 := by
  unfold invA
  rw [List.getElem?_map, List.getElem?_range hk]; rfl
theorem invA_rot {lp : List QT} {lr : List RT} {f : FT} {A : Option Addr} {c T : Nat} (hc : checkE lp lr f = 0) : invA lp lr (withL f A c (rotL f.ls T)) f.ls.length = rotL (invA lp lr f f.ls.length) T := by
  apply List.ext_getElem?
  intro k
  by_cases hk : k < f.ls.length
  · have hj := Nat.mod_lt (k + T) (show 0 < f.ls.length by omega)
    rw [invA_get hk, rot_get _ _ (by rw [invA_len]; exact hk), invA_len, invA_get hj, line_rot hc hk]
  · rw [List.getElem?_eq_none (by rw [invA_len]; omega), List.getElem?_eq_none (by rw [rot_len, invA_len]; omega)]
/-- What the law asks of the two invoices. -/
theorem turns_law (lp : List QT) (lr : List RT) (f : FT) (A : Option Addr) (c T : Nat) (h0 : 0 < f.ls.length) :
    (((invV lp lr f).2.2 = 0 ↔ (invV lp lr (withL f A c (rotL f.ls T))).2.2 = 0) ∧ ((invV lp lr f).2.2 ≠ 0 → (invV lp lr f).1 = [] ∧ (invV lp lr (withL f A c (rotL f.ls T))).1 = [])) ∧
    ((invV lp lr f).2.2 = 0 → (invV lp lr f).1.length = f.ls.length ∧ (invV lp lr (withL f A c (rotL f.ls T))).1 = rotL (invV lp lr f).1 T ∧ (invV lp lr (withL f A c (rotL f.ls T))).2.1 = (invV lp lr f).2.1 ∧ wsum (invV lp lr f).1 = (invV lp lr f).2.1) := by
  have hp := rot_perm f.ls T
  have hcw := check_with (lp := lp) (lr := lr) (A := A) (c := c) hp
  have hlen : (withL f A c (rotL f.ls T)).ls.length = f.ls.length := rot_len _ _
  by_cases hc : checkE lp lr f = 0
  · have hf : firstE lp lr (withL f A c (rotL f.ls T)) f.ls.length = 0 ↔ firstE lp lr f f.ls.length = 0 := by
      rw [firstE_iff, firstE_iff]
      constructor
      · intro h j hj
        have hr := Nat.mod_lt T h0
        -- the place of j in the other order
        have hk : (j + (f.ls.length - T % f.ls.length)) % f.ls.length < f.ls.length := Nat.mod_lt _ h0
        have := h _ hk
        rw [line_rot hc hk] at this
        have e : ((j + (f.ls.length - T % f.ls.length)) % f.ls.length + T) % f.ls.length = j := by
          have e1 : ((j + (f.ls.length - T % f.ls.length)) % f.ls.length + T) % f.ls.length = (j + (f.ls.length - T % f.ls.length) + T % f.ls.length) % f.ls.length := by simp [Nat.add_mod]
          rw [e1, show j + (f.ls.length - T % f.ls.length) + T % f.ls.length = j + f.ls.length by omega, Nat.add_mod_right, Nat.mod_eq_of_lt hj]
        rwa [e] at this
      · intro h k hk
        rw [line_rot hc hk]
        exact h _ (Nat.mod_lt _ h0)
    by_cases hff : firstE lp lr f f.ls.length = 0
    · have hfg := hf.2 hff
      have e1 : invV lp lr f = (invA lp lr f f.ls.length, wsum (invA lp lr f f.ls.length), 0) := by unfold invV; rw [if_pos hc, if_pos hff]
      have e2 : invV lp lr (withL f A c (rotL f.ls T)) = (invA lp lr (withL f A c (rotL f.ls T)) f.ls.length, wsum (invA lp lr (withL f A c (rotL f.ls T)) f.ls.length), 0) := by unfold invV; rw [hlen, if_pos (hcw.trans hc), if_pos hfg]
      rw [e1, e2]
      have ham : ∀ x ∈ invA lp lr f f.ls.length, amt x = true := fun x hx => by
        obtain ⟨k, hk⟩ := List.getElem?_of_mem hx
        have hkl : k < f.ls.length := by have := (List.getElem?_eq_some_iff.1 hk).1; rwa [invA_len] at this
        rw [invA_get hkl] at hk
        obtain rfl := Option.some.inj hk
        exact line_amt ((firstE_iff _).1 hff k hkl)
      have h40 := (check_len hc).2
      have hpm := rot_perm (invA lp lr f f.ls.length) T
      refine ⟨⟨Iff.intro (fun _ => rfl) (fun _ => rfl), fun h => absurd rfl h⟩, fun _ => ⟨invA_len _ _ _ _, invA_rot hc, ?_, rfl⟩⟩
      show wsum _ = wsum _
      rw [invA_rot hc, wsum_eq ham (by rw [invA_len]; exact h40), wsum_eq (fun x hx => ham x (hpm.mem_iff.1 hx)) (by rw [rot_len, invA_len]; exact h40)]
      exact sum_perm hpm
    · have hfg : ¬ firstE lp lr (withL f A c (rotL f.ls T)) f.ls.length = 0 := fun h => hff (hf.1 h)
      have e1 : invV lp lr f = ([], 0, firstE lp lr f f.ls.length) := by unfold invV; rw [if_pos hc, if_neg hff]
      have e2 : invV lp lr (withL f A c (rotL f.ls T)) = ([], 0, firstE lp lr (withL f A c (rotL f.ls T)) f.ls.length) := by unfold invV; rw [hlen, if_pos (hcw.trans hc), if_neg hfg]
      rw [e1, e2]
      exact ⟨⟨⟨fun h => absurd h hff, fun h => absurd h hfg⟩, fun _ => ⟨rfl, rfl⟩⟩, fun h => absurd h hff⟩
  · have e1 : invV lp lr f = ([], 0, checkE lp lr f) := by unfold invV; rw [if_neg hc]
    have e2 : invV lp lr (withL f A c (rotL f.ls T)) = ([], 0, checkE lp lr f) := by unfold invV; rw [hcw, if_neg hc]
    rw [e1, e2]
    exact ⟨⟨Iff.rfl, fun _ => ⟨rfl, rfl⟩⟩, fun h => absurd h hc⟩
end Go.Proofs.YthccpdefgjneiaaDoor

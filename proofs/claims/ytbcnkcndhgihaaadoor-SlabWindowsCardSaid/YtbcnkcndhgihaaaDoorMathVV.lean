/- Blocks: volumes, in plain words. Blocks: volumes by Op, and what was taken, in plain words. Blocks: which blocks are the same, in plain words. -/
import Derived.Test.YtbcnkcndhgihaaaDoorSL0
namespace Go.Proofs.YtbcnkcndhgihaaaDoor
open Go.RowKit

def sm : Nat → (Nat → Nat) → Nat
  | 0, _ => 0
  | n + 1, f => sm n f + f n
theorem sm_congr : ∀ {n : Nat} {f g : Nat → Nat}, (∀ i, i < n → f i = g i) → sm n f = sm n g
  | 0, _, _, _ => rfl
  | n + 1, f, g, h => by
    show sm n f + f n = sm n g + g n
    rw [sm_congr (fun i hi => h i (by omega)), h n (by omega)]
theorem sm_le : ∀ {n : Nat} {f g : Nat → Nat}, (∀ i, i < n → f i ≤ g i) → sm n f ≤ sm n g
  | 0, _, _, _ => Nat.le_refl _
  | _ + 1, _, _, h => Nat.add_le_add (sm_le (fun i hi => h i (by omega))) (h _ (by omega))
theorem sm_add : ∀ (n : Nat) (f g : Nat → Nat), sm n (fun i => f i + g i) = sm n f + sm n g
  | 0, _, _ => rfl
  | n + 1, f, g => by
    show sm n (fun i => f i + g i) + (f n + g n) = sm n f + f n + (sm n g + g n)
    rw [sm_add n f g]; omega
theorem sm_const : ∀ (n c : Nat), sm n (fun _ => c) = n * c
  | 0, c => (Nat.zero_mul c).symm
  | n + 1, c => by
    show sm n (fun _ => c) + c = _
    rw [sm_const n c, Nat.succ_mul]
theorem sm_split : ∀ (a b : Nat) (f : Nat → Nat), sm (a + b) f = sm a f + sm b (fun i => f (a + i))
  | _, 0, _ => rfl
  | a, b + 1, f => by
    show sm (a + b) f + f (a + b) = sm a f + (sm b (fun i => f (a + i)) + f (a + b))
    rw [sm_split a b f]; omega
theorem sm_head (n : Nat) (f : Nat → Nat) : sm (n + 1) f = f 0 + sm n (fun i => f (i + 1)) := by
  rw [Nat.add_comm n 1, sm_split 1 n f]
  show 0 + f 0 + _ = _
  rw [Nat.zero_add]
  congr 1
  exact sm_congr fun i _ => by rw [Nat.add_comm]
theorem sm_rev : ∀ (n : Nat) (f : Nat → Nat), sm n (fun i => f (n - 1 - i)) = sm n f
  | 0, _ => rfl
  | n + 1, f => by
    rw [sm_head]
    have : sm n (fun i => f (n + 1 - 1 - (i + 1))) = sm n f := by
      rw [← sm_rev n f]
      exact sm_congr fun i _ => by congr 1; omega
    rw [this]
    show f n + sm n f = sm n f + f n
    omega
theorem sm_swap : ∀ (a b : Nat) (f : Nat → Nat → Nat), sm a (fun x => sm b (fun y => f x y)) = sm b (fun y => sm a (fun x => f x y))
  | 0, b, f => by
    show 0 = sm b (fun _ => 0)
    rw [sm_const]; rfl
  | a + 1, b, f => by
    show sm a (fun x => sm b (fun y => f x y)) + sm b (fun y => f a y) = sm b (fun y => sm a (fun x => f x y) + f a y)
    rw [sm_swap a b f, sm_add]
theorem sm_mul (a : Nat) (ha : 0 < a) : ∀ (b : Nat) (f : Nat → Nat → Nat), sm (a * b) (fun n => f (n % a) (n / a)) = sm b (fun m => sm a (fun x => f x m))
  | 0, _ => rfl
  | b + 1, f => by
    rw [Nat.mul_succ, sm_split, sm_mul a ha b f]
    show _ + _ = sm b _ + sm a (fun x => f x b)
    congr 1
    apply sm_congr
    intro i hi
    rw [Nat.mul_add_mod, Nat.mod_eq_of_lt hi, Nat.mul_add_div ha, Nat.div_eq_of_lt hi, Nat.add_zero]
theorem sm_times (a : Nat) (ha : 0 < a) (k : Nat) (f : Nat → Nat) : sm (a * k) (fun n => f (n % a)) = k * sm a f := by
  rw [sm_mul a ha k (fun x _ => f x), sm_const]
theorem sm_part (o n m : Nat) (h : o + n ≤ m) (f : Nat → Nat) : sm n (fun i => f (o + i)) ≤ sm m f := by
  obtain ⟨r, rfl⟩ : ∃ r, m = o + n + r := ⟨m - (o + n), by omega⟩
  rw [sm_split, sm_split]
  omega
theorem sm_scale (k : Nat) : ∀ (n : Nat) (f : Nat → Nat), sm n (fun i => k * f i) = k * sm n f
  | 0, _ => rfl
  | n + 1, f => by
    show sm n (fun i => k * f i) + k * f n = k * (sm n f + f n)
    rw [sm_scale k n f, Nat.mul_add]
theorem sm_mono {a b : Nat} (h : a ≤ b) (f : Nat → Nat) : sm a f ≤ sm b f := by
  obtain ⟨r, rfl⟩ : ∃ r, b = a + r := ⟨b - a, by omega⟩
  rw [sm_split]; omega

/-- Over a box of cells. -/
def tri (a b c : Nat) (f : Nat → Nat → Nat → Nat) : Nat := sm c fun z => sm b fun y => sm a fun x => f x y z
theorem tri_congr {a b c : Nat} {f g : Nat → Nat → Nat → Nat} (h : ∀ x y z, x < a → y < b → z < c → f x y z = g x y z) : tri a b c f = tri a b c g :=
  sm_congr fun z hz => sm_congr fun y hy => sm_congr fun x hx => h x y z hx hy hz
theorem tri_splitx {a1 a2 b c : Nat} {f g h : Nat → Nat → Nat → Nat} (h1 : ∀ x y z, x < a1 → y < b → z < c → f x y z = g x y z) (h2 : ∀ x y z, x < a2 → y < b → z < c → f (a1 + x) y z = h x y z) : tri (a1 + a2) b c f = tri a1 b c g + tri a2 b c h := by
  unfold tri
  rw [← sm_add]
  refine sm_congr fun z hz => ?_
  rw [← sm_add]
  refine sm_congr fun y hy => ?_
  rw [sm_split]
  congr 1
  · exact sm_congr fun x hx => h1 x y z hx hy hz
  · exact sm_congr fun x hx => h2 x y z hx hy hz
theorem tri_splity {a b1 b2 c : Nat} {f g h : Nat → Nat → Nat → Nat} (h1 : ∀ x y z, x < a → y < b1 → z < c → f x y z = g x y z) (h2 : ∀ x y z, x < a → y < b2 → z < c → f x (b1 + y) z = h x y z) : tri a (b1 + b2) c f = tri a b1 c g + tri a b2 c h := by
  unfold tri
  rw [← sm_add]
  refine sm_congr fun z hz => ?_
  rw [sm_split]
  congr 1
  · exact sm_congr fun y hy => sm_congr fun x hx => h1 x y z hx hy hz
  · exact sm_congr fun y hy => sm_congr fun x hx => h2 x y z hx hy hz
theorem tri_splitz {a b c1 c2 : Nat} {f g h : Nat → Nat → Nat → Nat} (h1 : ∀ x y z, x < a → y < b → z < c1 → f x y z = g x y z) (h2 : ∀ x y z, x < a → y < b → z < c2 → f x y (c1 + z) = h x y z) : tri a b (c1 + c2) f = tri a b c1 g + tri a b c2 h := by
  unfold tri
  rw [sm_split]
  congr 1
  · exact sm_congr fun z hz => sm_congr fun y hy => sm_congr fun x hx => h1 x y z hx hy hz
  · exact sm_congr fun z hz => sm_congr fun y hy => sm_congr fun x hx => h2 x y z hx hy hz
theorem tri_revx (a b c : Nat) (f : Nat → Nat → Nat → Nat) : tri a b c (fun x y z => f (a - 1 - x) y z) = tri a b c f :=
  sm_congr fun z _ => sm_congr fun y _ => sm_rev a fun x => f x y z
theorem tri_revy (a b c : Nat) (f : Nat → Nat → Nat → Nat) : tri a b c (fun x y z => f x (b - 1 - y) z) = tri a b c f :=
  sm_congr fun z _ => sm_rev b fun y => sm a fun x => f x y z
theorem tri_revz (a b c : Nat) (f : Nat → Nat → Nat → Nat) : tri a b c (fun x y z => f x y (c - 1 - z)) = tri a b c f :=
  sm_rev c fun z => sm b fun y => sm a fun x => f x y z
theorem tri_repx (a k b c : Nat) (ha : 0 < a) (f : Nat → Nat → Nat → Nat) : tri (a * k) b c (fun x y z => f (x % a) y z) = k * tri a b c f := by
  unfold tri
  rw [← sm_scale]
  refine sm_congr fun z _ => ?_
  rw [← sm_scale]
  exact sm_congr fun y _ => sm_times a ha k fun x => f x y z
theorem tri_repy (a b k c : Nat) (hb : 0 < b) (f : Nat → Nat → Nat → Nat) : tri a (b * k) c (fun x y z => f x (y % b) z) = k * tri a b c f := by
  unfold tri
  rw [← sm_scale]
  exact sm_congr fun z _ => sm_times b hb k fun y => sm a fun x => f x y z
theorem tri_repz (a b c k : Nat) (hc : 0 < c) (f : Nat → Nat → Nat → Nat) : tri a b (c * k) (fun x y z => f x y (z % c)) = k * tri a b c f :=
  sm_times c hc k fun z => sm b fun y => sm a fun x => f x y z
theorem tri_partx (o n m b c : Nat) (h : o + n ≤ m) (f : Nat → Nat → Nat → Nat) : tri n b c (fun x y z => f (o + x) y z) ≤ tri m b c f :=
  sm_le fun z _ => sm_le fun y _ => sm_part o n m h fun x => f x y z
theorem tri_party (a o n m c : Nat) (h : o + n ≤ m) (f : Nat → Nat → Nat → Nat) : tri a n c (fun x y z => f x (o + y) z) ≤ tri a m c f :=
  sm_le fun z _ => sm_part o n m h fun y => sm a fun x => f x y z
theorem tri_partz (a b o n m : Nat) (h : o + n ≤ m) (f : Nat → Nat → Nat → Nat) : tri a b n (fun x y z => f x y (o + z)) ≤ tri a b m f :=
  sm_part o n m h fun z => sm b fun y => sm a fun x => f x y z
theorem tri_turnx (a b c : Nat) (f : Nat → Nat → Nat → Nat) : tri a c b (fun x y z => f x z (c - 1 - y)) = tri a b c f := by
  unfold tri
  rw [sm_swap]
  exact sm_rev c fun y => sm b fun z => sm a fun x => f x z y
theorem tri_turny (a b c : Nat) (f : Nat → Nat → Nat → Nat) : tri c b a (fun x y z => f (a - 1 - z) y x) = tri a b c f := by
  unfold tri
  rw [sm_rev a fun z => sm b fun y => sm c fun x => f z y x]
  rw [show (fun z => sm b fun y => sm c fun x => f z y x) = fun z => sm c fun x => sm b fun y => f z y x from funext fun z => sm_swap b c fun y x => f z y x]
  rw [sm_swap a c]
  exact sm_congr fun x _ => sm_swap a b fun z y => f z y x
theorem tri_turnz (a b c : Nat) (f : Nat → Nat → Nat → Nat) : tri b a c (fun x y z => f y (b - 1 - x) z) = tri a b c f := by
  unfold tri
  refine sm_congr fun z _ => ?_
  rw [sm_swap a b]
  exact sm_rev b fun x => sm a fun y => f y x z

/-- Cells by their numbers. -/
def cellN (e : T3) (n : Nat) : T3 := ⟨(n : Int) % e.x, (n : Int) / e.x % e.y, (n : Int) / e.x / e.y⟩
def cellsN (e : T3) : Nat := e.x.toNat * e.y.toNat * e.z.toNat
def ind (s : Sh) (j : Int) (c : T3) : Nat := if s.at c = 97 + j then 1 else 0
def cntS (s : Sh) (k : Nat) (j : Int) : Nat := sm k fun i => ind s j (cellN s.ext i)
def vol (s : Sh) (j : Int) : Nat := tri s.ext.x.toNat s.ext.y.toNat s.ext.z.toNat fun x y z => ind s j ⟨x, y, z⟩
theorem nat_ext {e : T3} (h : ExtOk e) : ∃ a b c : Nat, e = ⟨a, b, c⟩ ∧ 0 < a ∧ 0 < b ∧ 0 < c ∧ a ≤ 200 ∧ b ≤ 200 ∧ c ≤ 200 ∧ a * b * c ≤ 8000 := by
  obtain ⟨x, y, z⟩ := e
  unfold ExtOk at h
  obtain ⟨h1, h2, h3, h4⟩ := h
  dsimp only at h1 h2 h3 h4
  obtain ⟨a, rfl⟩ : ∃ a : Nat, x = a := ⟨x.toNat, by omega⟩
  obtain ⟨b, rfl⟩ : ∃ b : Nat, y = b := ⟨y.toNat, by omega⟩
  obtain ⟨c, rfl⟩ : ∃ c : Nat, z = c := ⟨z.toNat, by omega⟩
  exact ⟨a, b, c, rfl, by omega, by omega, by omega, by omega, by omega, by omega, by rw [← Int.natCast_mul, ← Int.natCast_mul] at h4; omega⟩
theorem cellsN_nat (a b c : Nat) : cellsN ⟨a, b, c⟩ = a * b * c := rfl
theorem cellN_nat (a b c n : Nat) : cellN ⟨a, b, c⟩ n = ⟨((n % a : Nat) : Int), ((n / a % b : Nat) : Int), ((n / a / b : Nat) : Int)⟩ := by
  unfold cellN
  simp
theorem cellN_in {e : T3} (h : ExtOk e) {n : Nat} (hn : n < cellsN e) : InE e (cellN e n) := by
  obtain ⟨a, b, c, rfl, ha, hb, hc, _⟩ := nat_ext h
  rw [cellsN_nat] at hn
  rw [cellN_nat]
  have h1 := Nat.mod_lt n ha
  have h2 := Nat.mod_lt (n / a) hb
  have h3 : n / a / b < c := by
    rw [Nat.div_div_eq_div_mul, Nat.div_lt_iff_lt_mul (Nat.mul_pos ha hb)]
    rw [Nat.mul_comm c]; exact hn
  generalize n / a / b = q3 at *
  generalize n / a % b = q2 at *
  generalize n % a = q1 at *
  refine ⟨⟨by dsimp only; omega, by dsimp only; omega⟩, ⟨by dsimp only; omega, by dsimp only; omega⟩, by dsimp only; omega, by dsimp only; omega⟩
/-- The number of a cell. -/
theorem cellN_at {a b x y z : Nat} (c : Nat) (hx : x < a) (hy : y < b) : cellN ⟨a, b, c⟩ ((z * b + y) * a + x) = ⟨x, y, z⟩ := by
  rw [cellN_nat]
  have e1 : ((z * b + y) * a + x) % a = x := by rw [Nat.mul_comm, Nat.mul_add_mod, Nat.mod_eq_of_lt hx]
  have e2 : ((z * b + y) * a + x) / a = z * b + y := by rw [Nat.mul_comm, Nat.mul_add_div (by omega), Nat.div_eq_of_lt hx, Nat.add_zero]
  have e3 : (z * b + y) % b = y := by rw [Nat.mul_comm, Nat.mul_add_mod, Nat.mod_eq_of_lt hy]
  have e4 : (z * b + y) / b = z := by rw [Nat.mul_comm, Nat.mul_add_div (by omega), Nat.div_eq_of_lt hy, Nat.add_zero]
  rw [e1, e2, e3, e4]
theorem cnt_vol {s : Sh} (h : ExtOk s.ext) (j : Int) : cntS s (cellsN s.ext) j = vol s j := by
  obtain ⟨a, b, c, he, ha, hb, hc, _⟩ := nat_ext h
  unfold cntS vol
  rw [he, cellsN_nat]
  rw [show (fun i => ind s j (cellN ⟨a, b, c⟩ i)) = fun n => (fun (x m : Nat) => ind s j ⟨x, ((m % b : Nat) : Int), ((m / b : Nat) : Int)⟩) (n % a) (n / a) from funext fun n => by rw [cellN_nat]]
  rw [Nat.mul_assoc]
  refine (sm_mul a ha (b * c) fun (x m : Nat) => ind s j ⟨x, ((m % b : Nat) : Int), ((m / b : Nat) : Int)⟩).trans ?_
  exact sm_mul b hb c fun (y z : Nat) => sm a fun (x : Nat) => ind s j ⟨x, y, z⟩
theorem vol_le {s : Sh} (h : ExtOk s.ext) (j : Int) : vol s j ≤ 8000 := by
  rw [← cnt_vol h]
  obtain ⟨a, b, c, he, _, _, _, _, _, _, h8⟩ := nat_ext h
  have h1 : cntS s (cellsN s.ext) j ≤ sm (cellsN s.ext) fun _ => 1 := sm_le fun i _ => by unfold ind; split <;> omega
  rw [sm_const, he, cellsN_nat] at h1
  rw [he, cellsN_nat]
  omega
theorem cnt_le {s : Sh} (k : Nat) (j : Int) : cntS s k j ≤ k := by
  have h1 : cntS s k j ≤ sm k fun _ => 1 := sm_le fun i _ => by unfold ind; split <;> omega
  rw [sm_const] at h1
  omega
/-- All colours together. -/
theorem vol_sum {s : Sh} (h : s.Ok) : sm 9 (fun j => vol s j) = cellsN s.ext := by
  rw [sm_congr (g := fun j => cntS s (cellsN s.ext) (j : Int)) fun j _ => (cnt_vol h.ext j).symm]
  unfold cntS
  rw [sm_swap]
  rw [sm_congr (g := fun _ => 1), sm_const, Nat.mul_one]
  intro i hi
  have hc := at_col s h _ (cellN_in h.ext hi)
  unfold ind
  generalize s.at (cellN s.ext i) = v at hc
  obtain ⟨k, rfl⟩ : ∃ k : Nat, v = 97 + (k : Int) := ⟨(v - 97).toNat, by omega⟩
  have hk : k = 0 ∨ k = 1 ∨ k = 2 ∨ k = 3 ∨ k = 4 ∨ k = 5 ∨ k = 6 ∨ k = 7 ∨ k = 8 := by omega
  rcases hk with rfl | rfl | rfl | rfl | rfl | rfl | rfl | rfl | rfl <;> rfl
end Go.Proofs.YtbcnkcndhgihaaaDoor

namespace Go.Proofs.YtbcnkcndhgihaaaDoor
open Go.RowKit
set_option linter.unusedSimpArgs false

theorem vol_nat {s : Sh} {a b c : Nat} (h : s.ext = ⟨a, b, c⟩) (j : Int) : vol s j = tri a b c fun x y z => ind s j ⟨x, y, z⟩ := by
  unfold vol; rw [h]; rfl
theorem ind_of {s t : Sh} {j : Int} {c d : T3} (h : s.at c = t.at d) : ind s j c = ind t j d := by unfold ind; rw [h]
theorem vol_solid {n : T3} {c : Int} (j : Int) : vol (.solid n c) j = if c = 97 + j then cellsN n else 0 := by
  have : vol (.solid n c) j = tri n.x.toNat n.y.toNat n.z.toNat fun _ _ _ => if c = 97 + j then 1 else 0 := rfl
  rw [this]
  unfold tri
  simp only [sm_const]
  unfold cellsN
  split
  · rw [Nat.mul_one, Nat.mul_comm n.y.toNat, Nat.mul_comm n.z.toNat]
  · simp
theorem vol_flip {n : T3} {a : Int} {p : Sh} (h : (Sh.flip n a p).Ok) (j : Int) : vol (.flip n a p) j = vol p j := by
  obtain ⟨_, hax, hp, rfl⟩ := h
  obtain ⟨A, B, C, he, _⟩ := nat_ext hp.ext
  rw [vol_nat (s := .flip p.ext a p) (a := A) (b := B) (c := C) he, vol_nat he]
  rcases hax with rfl | rfl | rfl
  · rw [← tri_revx]
    refine tri_congr fun x y z hx hy hz => ind_of ?_
    simp only [Sh.at, he, T3.get, T3.set, if_pos]
    congr 2; omega
  · rw [← tri_revy]
    refine tri_congr fun x y z hx hy hz => ind_of ?_
    simp only [Sh.at, he, T3.get, T3.set, if_pos, show (1 : Int) ≠ 0 by omega, if_false]
    congr 2; omega
  · rw [← tri_revz]
    refine tri_congr fun x y z hx hy hz => ind_of ?_
    simp only [Sh.at, he, T3.get, T3.set, if_pos, show (2 : Int) ≠ 0 by omega, show (2 : Int) ≠ 1 by omega, if_false]
    congr 2; omega
theorem vol_turn {n : T3} {a : Int} {p : Sh} (h : (Sh.turn n a p).Ok) (j : Int) : vol (.turn n a p) j = vol p j := by
  obtain ⟨_, hax, hp, rfl⟩ := h
  obtain ⟨A, B, C, he, _⟩ := nat_ext hp.ext
  rw [vol_nat (s := p) he]
  rcases hax with rfl | rfl | rfl
  · rw [vol_nat (a := A) (b := C) (c := B) (s := .turn (exch p.ext 0) 0 p) (by show exch p.ext 0 = _; rw [he]; rfl)]
    refine Eq.trans ?_ (tri_turnx A B C _)
    refine tri_congr fun x y z hx hy hz => ind_of ?_
    simp only [Sh.at, he, turnC, if_pos]
    congr 2; omega
  · rw [vol_nat (a := C) (b := B) (c := A) (s := .turn (exch p.ext 1) 1 p) (by show exch p.ext 1 = _; rw [he]; rfl)]
    refine Eq.trans ?_ (tri_turny A B C _)
    refine tri_congr fun x y z hx hy hz => ind_of ?_
    simp only [Sh.at, he, turnC, if_pos, show (1 : Int) ≠ 0 by omega, if_false]
    congr 2; omega
  · rw [vol_nat (a := B) (b := A) (c := C) (s := .turn (exch p.ext 2) 2 p) (by show exch p.ext 2 = _; rw [he]; rfl)]
    refine Eq.trans ?_ (tri_turnz A B C _)
    refine tri_congr fun x y z hx hy hz => ind_of ?_
    simp only [Sh.at, he, turnC, show (2 : Int) ≠ 0 by omega, show (2 : Int) ≠ 1 by omega, if_false]
    congr 2; omega
theorem vol_stack {n : T3} {a : Int} {p q : Sh} (h : (Sh.stack n a p q).Ok) (j : Int) : vol (.stack n a p q) j = vol p j + vol q j := by
  obtain ⟨_, hax, hp, hq, h1, h2⟩ := h
  obtain ⟨A, B, C, he, _⟩ := nat_ext hp.ext
  obtain ⟨A2, B2, C2, he2, _⟩ := nat_ext hq.ext
  rw [vol_nat he, vol_nat he2]
  have h3 := h1.symm.trans h2
  rw [he, he2] at h1 h3
  rcases hax with rfl | rfl | rfl
  · simp only [T3.get, T3.set, if_pos, T3.mk.injEq] at h1 h3
    obtain ⟨_, hb, hc⟩ := h3
    obtain rfl : B2 = B := by omega
    obtain rfl : C2 = C := by omega
    rw [vol_nat (s := .stack n 0 p q) (a := A + A2) (b := B2) (c := C2) (by show n = _; rw [h1]; simp)]
    refine tri_splitx (fun x y z hx hy hz => ind_of ?_) (fun x y z hx hy hz => ind_of ?_)
    · simp only [Sh.at, he, T3.get, if_pos]
      rw [if_pos (by omega)]
    · simp only [Sh.at, he, T3.get, T3.set, if_pos]
      rw [if_neg (by omega)]
      congr 2; omega
  · simp only [T3.get, T3.set, if_pos, show (1 : Int) ≠ 0 by omega, if_false, T3.mk.injEq] at h1 h3
    obtain ⟨ha, _, hc⟩ := h3
    obtain rfl : A2 = A := by omega
    obtain rfl : C2 = C := by omega
    rw [vol_nat (s := .stack n 1 p q) (a := A2) (b := B + B2) (c := C2) (by show n = _; rw [h1]; simp)]
    refine tri_splity (fun x y z hx hy hz => ind_of ?_) (fun x y z hx hy hz => ind_of ?_)
    · simp only [Sh.at, he, T3.get, if_pos, show (1 : Int) ≠ 0 by omega, if_false]
      rw [if_pos (by omega)]
    · simp only [Sh.at, he, T3.get, T3.set, if_pos, show (1 : Int) ≠ 0 by omega, if_false]
      rw [if_neg (by omega)]
      congr 2; omega
  · simp only [T3.get, T3.set, show (2 : Int) ≠ 0 by omega, show (2 : Int) ≠ 1 by omega, if_false, T3.mk.injEq] at h1 h3
    obtain ⟨ha, hb, _⟩ := h3
    obtain rfl : A2 = A := by omega
    obtain rfl : B2 = B := by omega
    rw [vol_nat (s := .stack n 2 p q) (a := A2) (b := B2) (c := C + C2) (by show n = _; rw [h1]; simp)]
    refine tri_splitz (fun x y z hx hy hz => ind_of ?_) (fun x y z hx hy hz => ind_of ?_)
    · simp only [Sh.at, he, T3.get, show (2 : Int) ≠ 0 by omega, show (2 : Int) ≠ 1 by omega, if_false]
      rw [if_pos (by omega)]
    · simp only [Sh.at, he, T3.get, T3.set, show (2 : Int) ≠ 0 by omega, show (2 : Int) ≠ 1 by omega, if_false]
      rw [if_neg (by omega)]
      congr 2; omega
theorem vol_slice {n : T3} {a o : Int} {p : Sh} (h : (Sh.slice n a o p).Ok) (j : Int) : vol (.slice n a o p) j ≤ vol p j := by
  obtain ⟨hn, hax, hp, ho, h1, h2⟩ := h
  obtain ⟨A, B, C, he, _⟩ := nat_ext hp.ext
  obtain ⟨A2, B2, C2, he2, _⟩ := nat_ext hn
  obtain ⟨O, rfl⟩ : ∃ O : Nat, o = O := ⟨o.toNat, by omega⟩
  rw [vol_nat he, vol_nat (s := .slice n a O p) he2]
  rw [he, he2] at h1 h2
  rcases hax with rfl | rfl | rfl
  · simp only [T3.get, T3.set, if_pos, T3.mk.injEq] at h1 h2
    obtain rfl : B2 = B := by omega
    obtain rfl : C2 = C := by omega
    refine Nat.le_trans (Nat.le_of_eq ?_) (tri_partx O A2 A B2 C2 (by omega) _)
    refine tri_congr fun x y z hx hy hz => ind_of ?_
    simp only [Sh.at, T3.get, T3.set, if_pos]
    congr 2; omega
  · simp only [T3.get, T3.set, if_pos, show (1 : Int) ≠ 0 by omega, if_false, T3.mk.injEq] at h1 h2
    obtain rfl : A2 = A := by omega
    obtain rfl : C2 = C := by omega
    refine Nat.le_trans (Nat.le_of_eq ?_) (tri_party A2 O B2 B C2 (by omega) _)
    refine tri_congr fun x y z hx hy hz => ind_of ?_
    simp only [Sh.at, T3.get, T3.set, if_pos, show (1 : Int) ≠ 0 by omega, if_false]
    congr 2; omega
  · simp only [T3.get, T3.set, show (2 : Int) ≠ 0 by omega, show (2 : Int) ≠ 1 by omega, if_false, T3.mk.injEq] at h1 h2
    obtain rfl : A2 = A := by omega
    obtain rfl : B2 = B := by omega
    refine Nat.le_trans (Nat.le_of_eq ?_) (tri_partz A2 B2 O C2 C (by omega) _)
    refine tri_congr fun x y z hx hy hz => ind_of ?_
    simp only [Sh.at, T3.get, T3.set, show (2 : Int) ≠ 0 by omega, show (2 : Int) ≠ 1 by omega, if_false]
    congr 2; omega
theorem vol_rep {n : T3} {a : Int} {p : Sh} {k : Nat} (hax : Ax a) (hp : p.Ok) (h : n = p.ext.set a (p.ext.get a * k)) (j : Int) : vol (.rep n a p) j = k * vol p j := by
  obtain ⟨A, B, C, he, hA, hB, hC, _⟩ := nat_ext hp.ext
  rw [vol_nat he]
  rw [he] at h
  rcases hax with rfl | rfl | rfl
  · rw [vol_nat (s := .rep n 0 p) (a := A * k) (b := B) (c := C) (by show n = _; rw [h]; simp [T3.get, T3.set]), ← tri_repx _ _ _ _ hA]
    refine tri_congr fun x y z hx hy hz => ind_of ?_
    simp only [Sh.at, he, T3.get, T3.set, if_pos, Int.natCast_emod]
  · rw [vol_nat (s := .rep n 1 p) (a := A) (b := B * k) (c := C) (by show n = _; rw [h]; simp [T3.get, T3.set]), ← tri_repy _ _ _ _ hB]
    refine tri_congr fun x y z hx hy hz => ind_of ?_
    simp only [Sh.at, he, T3.get, T3.set, if_pos, show (1 : Int) ≠ 0 by omega, if_false, Int.natCast_emod]
  · rw [vol_nat (s := .rep n 2 p) (a := A) (b := B) (c := C * k) (by show n = _; rw [h]; simp [T3.get, T3.set]), ← tri_repz _ _ _ _ hC]
    refine tri_congr fun x y z hx hy hz => ind_of ?_
    simp only [Sh.at, he, T3.get, T3.set, show (2 : Int) ≠ 0 by omega, show (2 : Int) ≠ 1 by omega, if_false, Int.natCast_emod]

/-- What was taken. -/
abbrev capN : Int := 1099511627777
mutual
def takS : BT → Int → Int
  | .mk op _ co n0 n1 n2 _ _ ps, j => if op = 1 then (if co = 97 + j then n0 * n1 * n2 else 0) else takL (if op = 6 then n0 else 1) ps j 0
def takL (t : Int) : List BT → Int → Int → Int
  | [], _, acc => acc
  | p :: ps, j, acc => takL t ps j (min (acc + takS p j * t) capN)
end
def timesB (b : BT) : Int := if b.op = 6 then b.n0 else 1
abbrev takG (t j : Int) : Int → BT → Int := fun acc p => min (acc + takS p j * t) capN
theorem takL_eq (t j : Int) : ∀ (l : List BT) (acc : Int), takL t l j acc = l.foldl (takG t j) acc
  | [], acc => by rw [takL]; rfl
  | p :: l, acc => by rw [takL, takL_eq t j l]; rfl
theorem takS_eq (b : BT) (j : Int) : takS b j = if b.op = 1 then (if b.co = 97 + j then b.n0 * b.n1 * b.n2 else 0) else b.ps.foldl (takG (timesB b) j) 0 := by
  cases b
  rw [takS, takL_eq]
  rfl
theorem takG_bd {t j : Int} (ht : 0 ≤ t) : ∀ (l : List BT) (acc : Int), (∀ p ∈ l, 0 ≤ takS p j) → 0 ≤ acc → acc ≤ capN → 0 ≤ l.foldl (takG t j) acc ∧ l.foldl (takG t j) acc ≤ capN
  | [], acc, _, h0, h1 => ⟨h0, h1⟩
  | p :: l, acc, hp, h0, h1 => by
    have h2 := Int.mul_nonneg (hp p (by simp)) ht
    refine takG_bd ht l _ (fun q hq => hp q (by simp [hq])) ?_ ?_
    · show 0 ≤ min (acc + takS p j * t) capN; unfold capN at *; omega
    · show min (acc + takS p j * t) capN ≤ capN; omega
theorem one_times {b : BT} (h : oneS b = true) : 1 ≤ timesB b ∧ timesB b ≤ 999 := by
  unfold timesB
  rcases one_facts h with ⟨o, _⟩ | ⟨_, _, _, ⟨o, _⟩ | ⟨p, _, ⟨o, _⟩ | ⟨o, _⟩ | ⟨o, _⟩ | ⟨o, k, _⟩⟩⟩
  · rw [if_neg (by omega)]; omega
  · rw [if_neg (by omega)]; omega
  · rw [if_neg (by omega)]; omega
  · rw [if_neg (by omega)]; omega
  · rw [if_neg (by omega)]; omega
  · rw [if_pos o]; exact k
theorem tak_bd : ∀ (b : BT), wholeS b = true → ∀ j, 0 ≤ takS b j ∧ takS b j ≤ capN := by
  refine BT.ind ?_
  intro b ih hw j
  obtain ⟨h1, hps⟩ := whole_parts hw
  rw [takS_eq]
  by_cases o : b.op = 1
  · rw [if_pos o]
    split
    · rcases one_facts h1 with ⟨_, _, _, _, k1, k2, k3⟩ | ⟨_, _, _, ⟨o2, _⟩ | ⟨p, _, ⟨o2, _⟩ | ⟨o2, _⟩ | ⟨o2, _⟩ | ⟨o2, _⟩⟩⟩
      · have a1 : 0 ≤ b.n0 * b.n1 := Int.mul_nonneg (by omega) (by omega)
        have a2 : b.n0 * b.n1 ≤ 999 * 999 := Int.mul_le_mul (by omega) (by omega) (by omega) (by omega)
        have a3 : 0 ≤ b.n0 * b.n1 * b.n2 := Int.mul_nonneg a1 (by omega)
        have a4 : b.n0 * b.n1 * b.n2 ≤ 999 * 999 * 999 := Int.mul_le_mul a2 (by omega) (by omega) (by omega)
        exact ⟨a3, by unfold capN; omega⟩
      all_goals omega
    · unfold capN; omega
  · rw [if_neg o]
    exact takG_bd (by have := one_times h1; omega) b.ps 0 (fun p hp => (ih p hp (hps p hp) j).1) (by omega) (by unfold capN; omega)
mutual
def cutS : BT → Bool
  | .mk op _ _ _ _ _ _ _ ps => decide (op = 4) || cutL ps
def cutL : List BT → Bool
  | [] => false
  | p :: ps => cutS p || cutL ps
end
theorem cutS_eq (b : BT) : cutS b = (decide (b.op = 4) || b.ps.any cutS) := by
  have hl : ∀ l, cutL l = l.any cutS := by
    intro l
    induction l with
    | nil => rw [cutL]; rfl
    | cons p l ih => rw [cutL, List.any_cons, ih]
  cases b
  rw [cutS, hl]
  rfl
/-- At least what a block has was taken; just as much, where nothing is cut off. -/
theorem tak_vol : ∀ (b : BT), wholeS b = true → ∀ s, builtS b = .ok s → ∀ j : Int, (vol s j : Int) ≤ takS b j ∧ (cutS b = false → (vol s j : Int) = takS b j) := by
  refine BT.ind ?_
  intro b ih hw S hS j
  have hOK := built_ok b hw S hS
  have h8 := vol_le hOK.ext j
  obtain ⟨h1, hps⟩ := whole_parts hw
  rw [takS_eq, cutS_eq]
  rcases one_facts h1 with ⟨o, hp, _, _, k1, k2, k3⟩ | ⟨hax, _, _, ⟨o, ⟨p, q, hp⟩, _⟩ | ⟨p, hp, ⟨o, _⟩ | ⟨o, h0, _⟩ | ⟨o, _⟩ | ⟨o, k, _⟩⟩⟩
  · have hj : joinS b [] = .ok S := by rw [builtS_eq, hp] at hS; exact hS
    obtain rfl := join1 o hj
    rw [if_pos o, vol_solid]
    have : (cellsN ⟨b.n0, b.n1, b.n2⟩ : Int) = b.n0 * b.n1 * b.n2 := by
      unfold cellsN
      rw [Int.natCast_mul, Int.natCast_mul, Int.toNat_of_nonneg (by dsimp only; omega), Int.toNat_of_nonneg (by dsimp only; omega), Int.toNat_of_nonneg (by dsimp only; omega)]
    split
    · rw [this]; exact ⟨Int.le_refl _, fun _ => rfl⟩
    · exact ⟨Int.le_refl _, fun _ => rfl⟩
  · obtain ⟨s, t, hs, ht, hj⟩ := built_two hp hS
    obtain ⟨n, rfl⟩ := join2 o hj
    have i1 := ih p (by simp [hp]) (hps p (by simp [hp])) s hs j
    have i2 := ih q (by simp [hp]) (hps q (by simp [hp])) t ht j
    rw [vol_stack hOK] at h8 ⊢
    rw [if_neg (by omega), hp]
    have ht1 : timesB b = 1 := by unfold timesB; rw [if_neg (by omega)]
    simp only [List.foldl_cons, List.foldl_nil, takG, ht1, List.any_cons, List.any_nil, Bool.or_false, Bool.or_eq_false_iff, Int.mul_one]
    refine ⟨by unfold capN; omega, fun h => ?_⟩
    have e1 := i1.2 h.2.1
    have e2 := i2.2 h.2.2
    unfold capN; omega
  · obtain ⟨s, hs, hj⟩ := built_one hp hS
    obtain ⟨n, rfl⟩ := join3 o hj
    have i1 := ih p (by simp [hp]) (hps p (by simp [hp])) s hs j
    rw [vol_turn hOK] at h8 ⊢
    rw [if_neg (by omega), hp]
    have ht1 : timesB b = 1 := by unfold timesB; rw [if_neg (by omega)]
    simp only [List.foldl_cons, List.foldl_nil, takG, ht1, List.any_cons, List.any_nil, Bool.or_false, Bool.or_eq_false_iff, Int.mul_one]
    refine ⟨by unfold capN; omega, fun h => ?_⟩
    have e1 := i1.2 h.2
    unfold capN; omega
  · obtain ⟨s, hs, hj⟩ := built_one hp hS
    obtain ⟨n, rfl⟩ := join4 o hj
    have i1 := ih p (by simp [hp]) (hps p (by simp [hp])) s hs j
    have i2 := vol_slice hOK j
    rw [if_neg (by omega), hp]
    have ht1 : timesB b = 1 := by unfold timesB; rw [if_neg (by omega)]
    simp only [List.foldl_cons, List.foldl_nil, takG, ht1, Int.mul_one]
    refine ⟨by unfold capN; omega, fun h => ?_⟩
    rw [decide_eq_true o] at h
    cases h
  · obtain ⟨s, hs, hj⟩ := built_one hp hS
    obtain rfl := join5 o hj
    have i1 := ih p (by simp [hp]) (hps p (by simp [hp])) s hs j
    rw [vol_flip hOK] at h8 ⊢
    rw [if_neg (by omega), hp]
    have ht1 : timesB b = 1 := by unfold timesB; rw [if_neg (by omega)]
    simp only [List.foldl_cons, List.foldl_nil, takG, ht1, List.any_cons, List.any_nil, Bool.or_false, Bool.or_eq_false_iff, Int.mul_one]
    refine ⟨by unfold capN; omega, fun h => ?_⟩
    have e1 := i1.2 h.2
    unfold capN; omega
  · obtain ⟨s, hs, hj⟩ := built_one hp hS
    obtain ⟨n, rfl, hn⟩ := join6v o hj
    have i1 := ih p (by simp [hp]) (hps p (by simp [hp])) s hs j
    obtain ⟨K, hK⟩ : ∃ K : Nat, b.n0 = K := ⟨b.n0.toNat, by omega⟩
    have hOK2 := hOK
    obtain ⟨_, _, hso, _⟩ := hOK2
    rw [hK] at hn
    rw [vol_rep hax hso hn] at h8 ⊢
    rw [if_neg (by omega), hp]
    have ht1 : timesB b = (K : Int) := by unfold timesB; rw [if_pos o]; exact hK
    simp only [List.foldl_cons, List.foldl_nil, takG, ht1, List.any_cons, List.any_nil, Bool.or_false, Bool.or_eq_false_iff, Int.natCast_mul]
    have hm : (K : Int) * (vol s j : Int) ≤ takS p j * K := by
      rw [Int.mul_comm]
      exact Int.mul_le_mul_of_nonneg_right i1.1 (by omega)
    have h9 : (K : Int) * (vol s j : Int) ≤ 8000 := by rw [← Int.natCast_mul]; omega
    refine ⟨by unfold capN; omega, fun h => ?_⟩
    have e1 := i1.2 h.2
    rw [← e1, Int.mul_comm (vol s j : Int)]
    unfold capN; omega
end Go.Proofs.YtbcnkcndhgihaaaDoor

namespace Go.Proofs.YtbcnkcndhgihaaaDoor
open Go.RowKit
set_option linter.unusedSimpArgs false
set_option linter.unusedVariables false

def sameS (s t : Sh) : Bool := decide (s.ext = t.ext) && (List.range (cellsN s.ext)).all fun n => decide (s.at (cellN s.ext n) = t.at (cellN s.ext n))
def equalB (b c : BT) : Bool × Int := match formS b with
  | .error e => (false, e)
  | .ok s => match formS c with
    | .error e => (false, e)
    | .ok t => (sameS s t, 0)
def mirrB (b : BT) (a : Int) : Bool × Int := match formS b with
  | .error e => (false, e)
  | .ok s => if 0 ≤ a ∧ a ≤ 2 then (sameS s (.flip s.ext a s), 0) else (false, 2)
/-- What the law's equal says. -/
def eqlB (b c : BT) : Bool := match formS b with
  | .error _ => true
  | .ok s => match formS c with
    | .error _ => true
    | .ok t => sameS s t
theorem same_of {s t : Sh} (he : s.ext = t.ext) (hs : ExtOk s.ext) (h : ∀ c, InE s.ext c → s.at c = t.at c) : sameS s t = true := by
  unfold sameS
  rw [decide_eq_true he, Bool.true_and, List.all_eq_true]
  intro n hn
  exact decide_eq_true (h _ (cellN_in hs (List.mem_range.1 hn)))
theorem same_not {s t : Sh} {k : Nat} (hk : k < cellsN s.ext) (h : s.at (cellN s.ext k) ≠ t.at (cellN s.ext k)) : sameS s t = false := by
  cases hb : sameS s t
  · rfl
  · unfold sameS at hb
    rw [Bool.and_eq_true, List.all_eq_true] at hb
    exact absurd (of_decide_eq_true (hb.2 k (List.mem_range.2 hk))) h
theorem same_all {s t : Sh} (he : s.ext = t.ext) (h : ∀ k, k < cellsN s.ext → s.at (cellN s.ext k) = t.at (cellN s.ext k)) : sameS s t = true := by
  unfold sameS
  rw [decide_eq_true he, Bool.true_and, List.all_eq_true]
  intro n hn
  exact decide_eq_true (h n (List.mem_range.1 hn))
theorem same_ext {s t : Sh} (he : s.ext ≠ t.ext) : sameS s t = false := by
  unfold sameS
  rw [decide_eq_false he, Bool.false_and]
/-- A recipe with an Op around it. -/
abbrev opB (op ax n0 n1 : Int) (A : Option Addr) (cp : Nat) (l : List BT) : BT := .mk op ax 0 n0 n1 0 A cp l
inductive Wrp (op ax : Int) : Nat → BT → BT → Prop where
  | zero (b : BT) : Wrp op ax 0 b b
  | succ {k : Nat} {b c : BT} (A : Option Addr) (cp : Nat) (h : Wrp op ax k b c) : Wrp op ax (k + 1) b (opB op ax 0 0 A cp [c])
theorem wrp_add {op ax : Int} {j : Nat} {a b c : BT} (h1 : Wrp op ax j a b) {k : Nat} (h2 : Wrp op ax k b c) : Wrp op ax (j + k) a c := by
  induction h2 with
  | zero => exact h1
  | succ A cp _ ih => exact .succ A cp (ih h1)
theorem built_turn {ax n0 n1 : Int} {A : Option Addr} {cp : Nat} {c : BT} {S : Sh} (h : builtS (opB 3 ax n0 n1 A cp [c]) = .ok S) : ∃ s, builtS c = .ok s ∧ S = .turn (exch s.ext ax) ax s := by
  obtain ⟨s, hs, hj⟩ := built_one (b := opB 3 ax n0 n1 A cp [c]) rfl h
  exact ⟨s, hs, join3v rfl hj⟩
theorem built_flip {ax n0 n1 : Int} {A : Option Addr} {cp : Nat} {c : BT} {S : Sh} (h : builtS (opB 5 ax n0 n1 A cp [c]) = .ok S) : ∃ s, builtS c = .ok s ∧ S = .flip s.ext ax s := by
  obtain ⟨s, hs, hj⟩ := built_one (b := opB 5 ax n0 n1 A cp [c]) rfl h
  exact ⟨s, hs, join5 rfl hj⟩
theorem built_slice {ax n0 n1 : Int} {A : Option Addr} {cp : Nat} {c : BT} {S : Sh} (h : builtS (opB 4 ax n0 n1 A cp [c]) = .ok S) : ∃ s, builtS c = .ok s ∧ S = .slice (s.ext.set ax n1) ax n0 s ∧ n0 + n1 ≤ s.ext.get ax := by
  obtain ⟨s, hs, hj⟩ := built_one (b := opB 4 ax n0 n1 A cp [c]) rfl h
  exact ⟨s, hs, join4v rfl hj⟩
theorem built_rep {ax n0 n1 : Int} {A : Option Addr} {cp : Nat} {c : BT} {S : Sh} (h : builtS (opB 6 ax n0 n1 A cp [c]) = .ok S) : ∃ s, builtS c = .ok s ∧ S = .rep (s.ext.set ax (s.ext.get ax * n0)) ax s := by
  obtain ⟨s, hs, hj⟩ := built_one (b := opB 6 ax n0 n1 A cp [c]) rfl h
  obtain ⟨n, h1, rfl⟩ := join6v rfl hj
  exact ⟨s, hs, h1⟩
theorem built_stack {ax n0 n1 : Int} {A : Option Addr} {cp : Nat} {c d : BT} {S : Sh} (h : builtS (opB 2 ax n0 n1 A cp [c, d]) = .ok S) : ∃ s t, builtS c = .ok s ∧ builtS d = .ok t ∧ S = .stack (s.ext.set ax (s.ext.get ax + t.ext.get ax)) ax s t := by
  obtain ⟨s, t, hs, ht, hj⟩ := built_two (b := opB 2 ax n0 n1 A cp [c, d]) rfl h
  exact ⟨s, t, hs, ht, join2v rfl hj⟩
theorem form_two {b c : BT} (h : ∀ s t, builtS b = .ok s → builtS c = .ok t → s.Ok → t.Ok → sameS s t = true) : eqlB b c = true := by
  unfold eqlB
  cases hb : formS b with
  | error e => rfl
  | ok s =>
    cases hc : formS c with
    | error e => rfl
    | ok t => exact h s t (form_whole hb).2 (form_whole hc).2 (form_ok hb) (form_ok hc)
theorem ext_stack (n : T3) (a : Int) (f b : Sh) : (Sh.stack n a f b).ext = n := rfl
theorem ext_turn (n : T3) (a : Int) (p : Sh) : (Sh.turn n a p).ext = n := rfl
theorem ext_slice (n : T3) (a o : Int) (p : Sh) : (Sh.slice n a o p).ext = n := rfl
theorem ext_flip (n : T3) (a : Int) (p : Sh) : (Sh.flip n a p).ext = n := rfl
theorem ext_rep (n : T3) (a : Int) (p : Sh) : (Sh.rep n a p).ext = n := rfl
theorem exch4 (e : T3) {a : Int} (ha : Ax a) : exch (exch (exch (exch e a) a) a) a = e := by
  rcases ha with rfl | rfl | rfl <;> rfl
theorem turn4 {s : Sh} {a : Int} (ha : Ax a) (c : T3) : (Sh.turn (exch (exch (exch (exch s.ext a) a) a) a) a (.turn (exch (exch (exch s.ext a) a) a) a (.turn (exch (exch s.ext a) a) a (.turn (exch s.ext a) a s)))).at c = s.at c := by
  obtain ⟨x, y, z⟩ := c
  simp only [Sh.at, ext_stack, ext_turn, ext_flip]
  congr 1
  generalize s.ext = e
  obtain ⟨e1, e2, e3⟩ := e
  rcases ha with rfl | rfl | rfl
  · simp only [turnC, exch, if_pos, T3.mk.injEq, true_and, and_true]; omega
  · simp only [turnC, exch, if_pos, show (1 : Int) ≠ 0 by omega, if_false, T3.mk.injEq, true_and, and_true]; omega
  · simp only [turnC, exch, show (2 : Int) ≠ 0 by omega, show (2 : Int) ≠ 1 by omega, if_false, T3.mk.injEq, true_and, and_true]; omega
theorem wrp_turn4 {a : Int} (ha : Ax a) {b c : BT} (h : Wrp 3 a 4 b c) : eqlB c b = true := by
  cases h with | succ A4 c4 h => cases h with | succ A3 c3 h => cases h with | succ A2 c2 h => cases h with | succ A1 c1 h => cases h with | zero =>
  refine form_two fun s t hs ht hso hto => ?_
  obtain ⟨s3, h3, rfl⟩ := built_turn hs
  obtain ⟨s2, h2, rfl⟩ := built_turn h3
  obtain ⟨s1, h1, rfl⟩ := built_turn h2
  obtain ⟨s0, h0, rfl⟩ := built_turn h1
  rw [h0] at ht
  injection ht with ht
  subst ht
  exact same_of (exch4 _ ha) hso.ext fun c _ => turn4 ha c
theorem flip2 {s : Sh} {a : Int} (ha : Ax a) (c : T3) : (Sh.flip s.ext a (.flip s.ext a s)).at c = s.at c := by
  obtain ⟨x, y, z⟩ := c
  simp only [Sh.at]
  congr 1
  generalize s.ext = e
  obtain ⟨e1, e2, e3⟩ := e
  rcases ha with rfl | rfl | rfl
  · simp only [T3.get, T3.set, if_pos, T3.mk.injEq, true_and, and_true]; omega
  · simp only [T3.get, T3.set, if_pos, show (1 : Int) ≠ 0 by omega, if_false, T3.mk.injEq, true_and, and_true]; omega
  · simp only [T3.get, T3.set, show (2 : Int) ≠ 0 by omega, show (2 : Int) ≠ 1 by omega, if_false, T3.mk.injEq, true_and, and_true]; omega
theorem wrp_flip2 {a : Int} (ha : Ax a) {b c : BT} (h : Wrp 5 a 2 b c) : eqlB c b = true := by
  cases h with | succ A2 c2 h => cases h with | succ A1 c1 h => cases h with | zero =>
  refine form_two fun s t hs ht hso hto => ?_
  obtain ⟨s1, h1, rfl⟩ := built_flip hs
  obtain ⟨s0, h0, rfl⟩ := built_flip h1
  rw [h0] at ht
  injection ht with ht
  subst ht
  exact same_of rfl hso.ext fun c _ => flip2 ha c
/-- A turn takes the volumes with it. -/
theorem wrp_vol {a : Int} {b c : BT} (h : Wrp 3 a 1 b c) {s t : Sh} (hs : formS b = .ok s) (ht : formS c = .ok t) (j : Int) : vol t j = vol s j := by
  cases h with | succ A1 c1 h => cases h with | zero =>
  have ho := form_ok ht
  obtain ⟨s0, h0, rfl⟩ := built_turn (form_whole ht).2
  have := (form_whole hs).2
  rw [h0] at this
  injection this with this
  subst this
  exact vol_turn ho j
/-- The mirror image of a stack. -/
theorem flip_stack {a : Int} (ha : Ax a) {b c : BT} {A1 A2 A3 A4 A5 : Option Addr} {k1 k2 k3 k4 k5 : Nat} : eqlB (opB 5 a 0 0 A1 k1 [opB 2 a 0 0 A2 k2 [b, c]]) (opB 2 a 0 0 A3 k3 [opB 5 a 0 0 A4 k4 [c], opB 5 a 0 0 A5 k5 [b]]) = true := by
  refine form_two fun s t hs ht hso hto => ?_
  obtain ⟨s1, h1, rfl⟩ := built_flip hs
  obtain ⟨sb, sc, hb, hc, rfl⟩ := built_stack h1
  obtain ⟨tc, tb, hc2, hb2, rfl⟩ := built_stack ht
  obtain ⟨uc, hc3, rfl⟩ := built_flip hc2
  obtain ⟨ub, hb3, rfl⟩ := built_flip hb2
  rw [hb] at hb3; injection hb3 with e; subst e
  rw [hc] at hc3; injection hc3 with e; subst e
  have hk : ∀ c1, InE ((sb.ext.set a (sb.ext.get a + sc.ext.get a))) c1 → 0 ≤ c1.get a ∧ c1.get a < sb.ext.get a + sc.ext.get a := by
    rintro ⟨x, y, z⟩ ⟨h1, h2, h3⟩
    rcases ha with rfl | rfl | rfl
    · simpa [T3.get, T3.set] using h1
    · simpa [T3.get, T3.set] using h2
    · simpa [T3.get, T3.set] using h3
  have h2 := hso.2.2.1.2.2.2.2
  refine same_of ?_ hso.ext ?_
  · show sb.ext.set a (sb.ext.get a + sc.ext.get a) = sc.ext.set a (sc.ext.get a + sb.ext.get a)
    rw [Int.add_comm (sc.ext.get a)]
    exact h2.1.symm.trans h2.2
  · intro c1 hc1
    have hb1 := hk c1 hc1
    simp only [Sh.at, ext_stack, ext_turn, ext_flip]
    clear h1 hs ht hso hto hb2 hc2 hk h2 hc1
    generalize sb.ext = e at *
    generalize sc.ext = f at *
    obtain ⟨e1, e2, e3⟩ := e
    obtain ⟨f1, f2, f3⟩ := f
    obtain ⟨x, y, z⟩ := c1
    rcases ha with rfl | rfl | rfl
    · simp only [T3.get, T3.set, if_pos] at hb1 ⊢
      by_cases hx : x < f1
      · rw [if_neg (by omega), if_pos hx]; congr 2; omega
      · rw [if_pos (by omega), if_neg hx]; congr 2; omega
    · simp only [T3.get, T3.set, if_pos, show (1 : Int) ≠ 0 by omega, if_false] at hb1 ⊢
      by_cases hx : y < f2
      · rw [if_neg (by omega), if_pos hx]; congr 2; omega
      · rw [if_pos (by omega), if_neg hx]; congr 2; omega
    · simp only [T3.get, T3.set, show (2 : Int) ≠ 0 by omega, show (2 : Int) ≠ 1 by omega, if_false] at hb1 ⊢
      by_cases hx : z < f3
      · rw [if_neg (by omega), if_pos hx]; congr 2; omega
      · rw [if_pos (by omega), if_neg hx]; congr 2; omega
theorem ine_get {n c : T3} {a : Int} (ha : Ax a) (h : InE n c) : 0 ≤ c.get a ∧ c.get a < n.get a := by
  obtain ⟨h1, h2, h3⟩ := h
  rcases ha with rfl | rfl | rfl
  · simpa [T3.get] using h1
  · simpa [T3.get] using h2
  · simpa [T3.get] using h3
theorem get_set_self (t : T3) {a : Int} (v : Int) (ha : Ax a) : (t.set a v).get a = v := get_set ha
theorem set_set (t : T3) {a : Int} (u v : Int) (ha : Ax a) : (t.set a u).set a v = t.set a v := by
  rcases ha with rfl | rfl | rfl <;> rfl
theorem set_get9 (t : T3) {a : Int} (ha : Ax a) : t.set a (t.get a) = t := by
  rcases ha with rfl | rfl | rfl <;> rfl
/-- A slice within the first part; within the second one. -/
theorem slice_first {a f n : Int} (ha : Ax a) {b c : BT} {A1 A2 A3 : Option Addr} {k1 k2 k3 : Nat} (h : ∀ s, builtS b = .ok s → f + n ≤ s.ext.get a) : eqlB (opB 4 a f n A1 k1 [opB 2 a 0 0 A2 k2 [b, c]]) (opB 4 a f n A3 k3 [b]) = true := by
  refine form_two fun s t hs ht hso hto => ?_
  obtain ⟨s1, h1, rfl, _⟩ := built_slice hs
  obtain ⟨sb, sc, hb, hc, rfl⟩ := built_stack h1
  obtain ⟨tb, hb2, rfl, _⟩ := built_slice ht
  rw [hb] at hb2; injection hb2 with e; subst e
  have hf := h _ hb
  refine same_of (set_set _ _ _ ha) hso.ext ?_
  intro c1 hc1
  have hg := ine_get ha hc1
  simp only [ext_stack, ext_slice, ext_rep, ext_flip, get_set ha] at hg
  simp only [Sh.at, get_set ha]
  rw [if_pos (by omega)]
theorem slice_second {a f n : Int} (ha : Ax a) {b c : BT} {A1 A2 A3 : Option Addr} {k1 k2 k3 : Nat} (hf : 0 ≤ f) {e : Int} (h : ∀ s, builtS b = .ok s → s.ext.get a = e) : eqlB (opB 4 a (e + f) n A1 k1 [opB 2 a 0 0 A2 k2 [b, c]]) (opB 4 a f n A3 k3 [c]) = true := by
  refine form_two fun s t hs ht hso hto => ?_
  obtain ⟨s1, h1, rfl, _⟩ := built_slice hs
  obtain ⟨sb, sc, hb, hc, rfl⟩ := built_stack h1
  obtain ⟨tb, hc2, rfl, _⟩ := built_slice ht
  rw [hc] at hc2; injection hc2 with e; subst e
  obtain rfl := h _ hb
  have hst := hso.2.2.1.2.2.2.2
  refine same_of ?_ hso.ext ?_
  · show (Sh.ext (.stack _ _ _ _)).set a n = sc.ext.set a n
    have := hst.1.symm.trans hst.2
    show ((sb.ext.set a (sb.ext.get a + sc.ext.get a)).set a n) = _
    rw [this, set_set _ _ _ ha]
  intro c1 hc1
  have hg := ine_get ha hc1
  simp only [ext_stack, ext_slice, ext_rep, ext_flip, get_set ha] at hg
  simp only [Sh.at, get_set ha, set_set _ _ _ ha]
  rw [if_neg (by omega)]
  congr 2; omega
/-- Twice is stacking two. -/
theorem stack_twice {a : Int} (ha : Ax a) {b : BT} {A1 A2 : Option Addr} {k1 k2 : Nat} : eqlB (opB 2 a 0 0 A1 k1 [b, b]) (opB 6 a 2 0 A2 k2 [b]) = true := by
  refine form_two fun s t hs ht hso hto => ?_
  obtain ⟨sb, sc, hb, hc, rfl⟩ := built_stack hs
  obtain ⟨tb, hb2, rfl⟩ := built_rep ht
  rw [hb] at hc hb2
  injection hc with e; subst e
  injection hb2 with e; subst e
  refine same_of ?_ hso.ext ?_
  · show sb.ext.set a _ = sb.ext.set a _
    congr 1; omega
  intro c1 hc1
  have hg := ine_get ha hc1
  simp only [ext_stack, ext_slice, ext_rep, ext_flip, get_set ha] at hg
  simp only [Sh.at]
  split
  · rw [Int.emod_eq_of_lt hg.1 (by assumption), set_get9 _ ha]
  · have : c1.get a % sb.ext.get a = c1.get a - sb.ext.get a := by
      rw [← Int.emod_eq_of_lt (a := c1.get a - sb.ext.get a) (b := sb.ext.get a) (by omega) (by omega)]
      rw [Int.sub_emod_right]
    rw [this]
theorem nat_div0 (m n : Nat) : (0 : Int) ≤ (m : Int) / n := Int.natCast_nonneg (m / n)
theorem rem_nat (m n : Nat) : (m : Int).tmod n = (m : Int) % n := tmod_pos (by omega)
theorem rem_nat2 (m n k : Nat) : ((m : Int) / n).tmod k = (m : Int) / n % k := tmod_pos (nat_div0 m n)
theorem quo_nat {m n : Nat} (h : m ≤ 100000000) : IntKind.i64.wrap ((m : Int) / n) = (m : Int) / n := by
  rw [show (m : Int) / n = ((m / n : Nat) : Int) from rfl]
  have h1 := Nat.div_le_self m n
  generalize m / n = x at *
  exact IntWalk.i64_in _ (by omega)
theorem quo_nat2 {m n k : Nat} (h : m ≤ 100000000) : IntKind.i64.wrap (((m : Int) / n).tdiv k) = (m : Int) / n / k := by
  rw [Int.tdiv_eq_ediv_of_nonneg (nat_div0 m n), show (m : Int) / n = ((m / n : Nat) : Int) from rfl]
  exact quo_nat (by have := Nat.div_le_self m n; omega)
theorem check_err {b : BT} {x : Int} (hf : formS b = .error x) : checkB b = x := by unfold checkB; rw [hf]
theorem check_ok {b : BT} {s : Sh} (hf : formS b = .ok s) : checkB b = 0 := by unfold checkB; rw [hf]
end Go.Proofs.YtbcnkcndhgihaaaDoor

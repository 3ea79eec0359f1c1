/- The order of ids is a total order. -/
import Derived.Test.YtmonkggoilhngaaGreatDoorGCadA
import Derived.Test.YtmonkggoilhngaaGreatDoorSlD
namespace Go.Proofs.YtmonkggoilhngaaGreatDoor
open Go.RowKit Bits Mem Sha
namespace Cad
theorem u8lt (a b : UInt8) : a < b ↔ a.toNat < b.toNat := UInt8.lt_iff_toNat_lt
theorem u8eq {a b : UInt8} (h1 : ¬ a < b) (h2 : ¬ b < a) : a = b := by
  rw [u8lt] at h1 h2
  exact UInt8.toNat_inj.1 (by omega)
theorem cmpB_self (a : List UInt8) : cmpB a a = 0 := by
  unfold cmpB
  induction a with
  | nil => rfl
  | cons x l ih =>
    have : ¬ x < x := by rw [u8lt]; omega
    simp only [Lib.compareBytes, this, if_false]
    exact ih
theorem cmpB_zero : ∀ (a b : List UInt8), cmpB a b = 0 → a = b
  | [], [], _ => rfl
  | [], _ :: _, h => by simp [cmpB, Lib.compareBytes] at h
  | _ :: _, [], h => by simp [cmpB, Lib.compareBytes] at h
  | x :: a, y :: b, h => by
    unfold cmpB Lib.compareBytes at h
    split at h
    · cases h
    · split at h
      · cases h
      · rename_i h1 h2
        rw [u8eq h1 h2, cmpB_zero a b h]
theorem cmpB_swap : ∀ (a b : List UInt8), cmpB b a = - cmpB a b
  | [], [] => rfl
  | [], _ :: _ => rfl
  | _ :: _, [] => rfl
  | x :: a, y :: b => by
    have ih := cmpB_swap a b
    unfold cmpB at ih ⊢
    unfold Lib.compareBytes
    by_cases h1 : x < y
    · have h2 : ¬ y < x := by rw [u8lt] at *; omega
      rw [if_neg h2, if_pos h1, if_pos h1]; rfl
    · by_cases h2 : y < x
      · rw [if_pos h2, if_neg h1, if_pos h2]
      · rw [if_neg h2, if_neg h1, if_neg h1, if_neg h2]; exact ih
theorem cmpB_trans : ∀ (a b c : List UInt8), cmpB a b < 0 → cmpB b c < 0 → cmpB a c < 0
  | [], [], _, h, _ => by simp [cmpB, Lib.compareBytes] at h
  | _, _ :: _, [], _, h => by simp [cmpB, Lib.compareBytes] at h
  | [], _ :: _, _ :: _, _, _ => by simp [cmpB, Lib.compareBytes]
  | _ :: _, [], _, h, _ => by simp [cmpB, Lib.compareBytes] at h
  | x :: a, y :: b, z :: c, h, g => by
    have ih := cmpB_trans a b c
    unfold cmpB at ih h g ⊢
    unfold Lib.compareBytes at h g ⊢
    by_cases h1 : x < y
    · have h2 : x < z ∨ ¬ (y < z) := by by_cases e : y < z <;> simp only [u8lt] at * <;> omega
      by_cases h3 : y < z
      · have : x < z := by rw [u8lt] at *; omega
        rw [if_pos this]; decide
      · rw [if_neg h3] at g
        by_cases h4 : z < y
        · rw [if_pos h4] at g; omega
        · have : x < z := by rw [u8lt] at *; omega
          rw [if_pos this]; decide
    · rw [if_neg h1] at h
      by_cases h2 : y < x
      · rw [if_pos h2] at h; omega
      · rw [if_neg h2] at h
        have e := u8eq h1 h2
        subst e
        by_cases h3 : x < z
        · rw [if_pos h3]; decide
        · rw [if_neg h3] at g ⊢
          by_cases h4 : z < x
          · rw [if_pos h4] at g; omega
          · rw [if_neg h4] at g ⊢
            exact ih h g
/-- Each id comes ahead of those behind it. -/
def Srt (L : List One) : Prop := ∀ (i j : Nat) (x y : One), i < j → L[i]? = some x → L[j]? = some y → cmpB x.id y.id < 0
theorem Srt.mono {L : List One} (h : Srt L) (id : List UInt8) : Mono L id := by
  intro i j x y hij hx hy hc
  rcases Nat.lt_or_eq_of_le hij with hlt | rfl
  · exact cmpB_trans _ _ _ (h i j x y hlt hx hy) hc
  · rw [hx] at hy
    cases hy
    exact hc
theorem Srt.insert {L : List One} {z : One} {n : Nat} (h : Srt L) (hs : Stands L z.id n) (hf : foundAt L z.id n = false) : Srt (L.take n ++ z :: L.drop n) := by
  have hn := hs.le
  have hlow : ∀ k x, k < n → L[k]? = some x → cmpB x.id z.id < 0 := hs.low
  have hhigh : ∀ k x, n ≤ k → L[k]? = some x → cmpB z.id x.id < 0 := by
    intro k x hk hx
    have h0 : ∀ y, L[n]? = some y → cmpB z.id y.id < 0 := fun y hy => by
      have h1 := hs.high n y (Nat.le_refl _) hy
      have h2 : ¬ cmpB y.id z.id = 0 := by
        intro e
        unfold foundAt at hf
        rw [hy] at hf
        simp [e] at hf
      rw [cmpB_swap y.id z.id]
      omega
    rcases Nat.lt_or_eq_of_le hk with hlt | rfl
    · have hkl := (List.getElem?_eq_some_iff.1 hx).1
      obtain ⟨y, hy⟩ : ∃ y, L[n]? = some y := ⟨_, List.getElem?_eq_getElem (by omega)⟩
      exact cmpB_trans _ _ _ (h0 y hy) (h n k y x hlt hy hx)
    · exact h0 x hx
  have hat : ∀ k, (L.take n ++ z :: L.drop n)[k]? = if k < n then L[k]? else if k = n then some z else L[k - 1]? := by
    intro k
    by_cases h1 : k < n
    · rw [if_pos h1, List.getElem?_append_left (by simp; omega), List.getElem?_take, if_pos h1]
    · rw [if_neg h1, List.getElem?_append_right (by simp; omega), List.length_take, Nat.min_eq_left hn]
      by_cases h2 : k = n
      · subst h2; simp
      · obtain ⟨m, hm⟩ : ∃ m, k - n = m + 1 := ⟨k - n - 1, by omega⟩
        rw [if_neg h2, hm, List.getElem?_cons_succ, List.getElem?_drop]
        congr 1
        omega
  intro i j x y hij hx hy
  rw [hat] at hx hy
  by_cases i1 : i < n
  · rw [if_pos i1] at hx
    by_cases j1 : j < n
    · rw [if_pos j1] at hy; exact h i j x y hij hx hy
    · rw [if_neg j1] at hy
      by_cases j2 : j = n
      · rw [if_pos j2] at hy; cases hy; exact hlow i x i1 hx
      · rw [if_neg j2] at hy; exact h i (j - 1) x y (by omega) hx hy
  · rw [if_neg i1] at hx
    rw [if_neg (show ¬ j < n by omega), if_neg (show ¬ j = n by omega)] at hy
    by_cases i2 : i = n
    · rw [if_pos i2] at hx; cases hx; exact hhigh (j - 1) y (by omega) hy
    · rw [if_neg i2] at hx; exact h (i - 1) (j - 1) x y (by omega) hx hy
theorem Srt.erase {L : List One} {n : Nat} (h : Srt L) : Srt (L.take n ++ L.drop (n + 1)) := by
  by_cases hn : n ≤ L.length
  · have hat : ∀ k, (L.take n ++ L.drop (n + 1))[k]? = if k < n then L[k]? else L[k + 1]? := by
      intro k
      by_cases h1 : k < n
      · rw [if_pos h1, List.getElem?_append_left (by simp; omega), List.getElem?_take, if_pos h1]
      · rw [if_neg h1, List.getElem?_append_right (by simp; omega), List.length_take, Nat.min_eq_left hn, List.getElem?_drop]
        congr 1
        omega
    intro i j x y hij hx hy
    rw [hat] at hx hy
    by_cases i1 : i < n
    · rw [if_pos i1] at hx
      by_cases j1 : j < n
      · rw [if_pos j1] at hy; exact h i j x y hij hx hy
      · rw [if_neg j1] at hy; exact h i (j + 1) x y (by omega) hx hy
    · rw [if_neg i1] at hx
      rw [if_neg (show ¬ j < n by omega)] at hy
      exact h (i + 1) (j + 1) x y (by omega) hx hy
  · rw [List.take_of_length_le (by omega), List.drop_eq_nil_of_le (by omega), List.append_nil]
    exact h
theorem Srt.ticked {L : List One} (h : Srt L) : Srt (L.map tick1) := by
  intro i j x y hij hx hy
  rw [List.getElem?_map] at hx hy
  obtain ⟨a, ha, rfl⟩ := Option.map_eq_some_iff.1 hx
  obtain ⟨b, hb, rfl⟩ := Option.map_eq_some_iff.1 hy
  exact h i j a b hij ha hb
end Cad
end Go.Proofs.YtmonkggoilhngaaGreatDoor
/- The walks of the schedule's Add where it errs. -/
namespace Go.Proofs.YtmonkggoilhngaaGreatDoor
open Go.RowKit Bits Mem Sha
namespace Cad
end Cad
end Go.Proofs.YtmonkggoilhngaaGreatDoor
/- The walks of the schedule's Add and Remove, whole: a sorted schedule stays one. -/
namespace Go.Proofs.YtmonkggoilhngaaGreatDoor
open Go.RowKit Bits Mem Sha
namespace Cad
theorem ones_append (A B : List One) : ones (A ++ B) = ones A ++ ones B := by simp [ones]
theorem ones_cons (x : One) (B : List One) : ones (x :: B) = (oneA x).toList ++ ones B := by simp [ones, oneA]
theorem ones_take : ∀ (L : List One) (n : Nat), (ones L).take (n * 3) = ones (L.take n)
  | [], n => by simp [ones]
  | x :: L, 0 => by simp [ones]
  | x :: L, n + 1 => by
    rw [List.take_succ_cons, ones_cons, ones_cons, ← ones_take L n, List.take_append, List.take_of_length_le (by simp [oneA]; omega)]
    congr 2
    simp [oneA]
    omega
theorem ones_drop : ∀ (L : List One) (n : Nat), (ones L).drop (n * 3) = ones (L.drop n)
  | [], n => by simp [ones]
  | x :: L, 0 => by simp
  | x :: L, n + 1 => by
    rw [List.drop_succ_cons, ones_cons, ← ones_drop L n, List.drop_append, List.drop_eq_nil_of_le (by simp [oneA]; omega), List.nil_append]
    congr 1
    simp [oneA]
    omega
theorem ones_one (L : List One) : ∀ u ∈ ones L, u.oneCell' = true := by
  intro u hu
  simp only [ones, List.mem_flatMap] at hu
  obtain ⟨x, _, hx⟩ := hu
  simp at hx
  rcases hx with rfl | rfl | rfl <;> rfl
theorem Stands.uniq {L : List One} {id : List UInt8} {n m : Nat} (h : Stands L id n) (h' : Stands L id m) : n = m := by
  rcases Nat.lt_trichotomy n m with hlt | rfl | hlt
  · obtain ⟨x, hx⟩ : ∃ x, L[n]? = some x := ⟨_, List.getElem?_eq_getElem (by have := h'.le; omega)⟩
    have := h.high n x (Nat.le_refl _) hx
    have := h'.low n x hlt hx
    omega
  · rfl
  · obtain ⟨x, hx⟩ : ∃ x, L[m]? = some x := ⟨_, List.getElem?_eq_getElem (by have := h.le; omega)⟩
    have := h'.high m x (Nat.le_refl _) hx
    have := h.low m x hlt hx
    omega
/-- Where a slice's block may lie behind a call: where it lay, or in what was made. -/
def Grew (w : World) (q : Option Addr) (c n : Nat) (q' : Option Addr) (n' c' : Nat) : Prop := ∀ k, (Value.slice q' n' c').ownBlock = some k → (Value.slice q n c).ownBlock = some k ∨ w.heap.size ≤ k
end Cad
end Go.Proofs.YtmonkggoilhngaaGreatDoor
/- Add and Remove as functions of the schedule; what they and a tick leave of one id. -/
namespace Go.Proofs.YtmonkggoilhngaaGreatDoor
open Go.RowKit Bits Mem Sha
namespace Cad
/-- Where an id stands, as a number. -/
def place (L : List One) (id : List UInt8) : Nat := (L.takeWhile fun x => decide (cmpB x.id id < 0)).length
theorem Stands.place_eq : ∀ {L : List One} {id : List UInt8} {n : Nat}, Stands L id n → n = place L id
  | [], id, n, h => by have := h.le; simp at this; subst this; rfl
  | x :: L, id, 0, h => by
    have := h.high 0 x (Nat.le_refl _) rfl
    unfold place
    rw [List.takeWhile_cons, if_neg (by simp; omega)]
    rfl
  | x :: L, id, n + 1, h => by
    have h0 := h.low 0 x (by omega) rfl
    have ih := Stands.place_eq (L := L) (id := id) (n := n) ⟨by have := h.le; simpa using this, fun k y hk hy => h.low (k + 1) y (by omega) (by simpa using hy), fun k y hk hy => h.high (k + 1) y (by omega) (by simpa using hy)⟩
    unfold place at ih ⊢
    rw [List.takeWhile_cons, if_pos (by simp; omega), List.length_cons, ← ih]
theorem Mono.stands : ∀ {L : List One} {id : List UInt8}, Mono L id → Stands L id (place L id)
  | [], id, _ => ⟨Nat.le_refl _, fun k x _ h => by simp at h, fun k x _ h => by simp at h⟩
  | x :: L, id, h => by
    have ih := Mono.stands (L := L) (id := id) (fun i j y z hij hy hz => h (i + 1) (j + 1) y z (by omega) (by simpa using hy) (by simpa using hz))
    by_cases hx : cmpB x.id id < 0
    · have e : place (x :: L) id = place L id + 1 := by
        unfold place
        rw [List.takeWhile_cons, if_pos (by simpa using hx)]
        rfl
      rw [e]
      refine ⟨by have := ih.le; simpa using this, fun k y hk hy => ?_, fun k y hk hy => ?_⟩
      · cases k with
        | zero => cases hy; exact hx
        | succ k => exact ih.low k y (by omega) (by simpa using hy)
      · cases k with
        | zero => omega
        | succ k => exact ih.high k y (by omega) (by simpa using hy)
    · have e : place (x :: L) id = 0 := by
        unfold place
        rw [List.takeWhile_cons, if_neg (by simpa using hx)]
        rfl
      rw [e]
      refine ⟨Nat.zero_le _, fun k y hk hy => by omega, fun k y hk hy => ?_⟩
      refine Int.not_lt.1 fun hlt => hx (h 0 k x y (Nat.zero_le _) rfl hy hlt)
def has (L : List One) (id : List UInt8) : Bool := foundAt L id (place L id)
/-- One more: the error, and the schedule. -/
def addD (L : List One) (id : List UInt8) (p a : Int) : Int × List One :=
  if p < 1 ∨ 1000 < p ∨ a < 0 then (1, L) else if has L id then (11, L) else (0, L.take (place L id) ++ ⟨id, p, a⟩ :: L.drop (place L id))
def remD (L : List One) (id : List UInt8) : Int × List One := if has L id then (0, L.take (place L id) ++ L.drop (place L id + 1)) else (10, L)
/-- A schedule as it can be. -/
structure Good (L : List One) : Prop where
  srt : Srt L
  each : ∀ x ∈ L, 1 ≤ x.period ∧ x.period ≤ 1000 ∧ 0 ≤ x.age ∧ x.age ≤ 9223372036854775807
theorem Good.nil : Good [] := ⟨fun i j x y _ h => by simp at h, fun x h => by cases h⟩
theorem addD_length (L : List One) (id : List UInt8) (p a : Int) : (addD L id p a).2.length ≤ L.length + 1 := by
  unfold addD
  split
  · simp
  · split
    · simp
    · simp; omega
theorem remD_length (L : List One) (id : List UInt8) : (remD L id).2.length ≤ L.length := by
  unfold remD
  split
  · simp; omega
  · simp
theorem Good.addD {L : List One} (h : Good L) (id : List UInt8) (p a : Int) (ha : a ≤ 9223372036854775807) : Good (addD L id p a).2 := by
  unfold Cad.addD
  split
  · exact h
  · split
    · exact h
    · rename_i hb hf
      refine ⟨h.srt.insert (z := ⟨id, p, a⟩) (h.srt.mono id).stands (by simpa [has] using hf), fun x hx => ?_⟩
      simp only [List.mem_append, List.mem_cons] at hx
      rcases hx with hx | rfl | hx
      · exact h.each x (List.mem_of_mem_take hx)
      · exact ⟨by show 1 ≤ p; omega, by show p ≤ 1000; omega, by show 0 ≤ a; omega, ha⟩
      · exact h.each x (List.mem_of_mem_drop hx)
theorem Good.remD {L : List One} (h : Good L) (id : List UInt8) : Good (remD L id).2 := by
  unfold Cad.remD
  split
  · refine ⟨h.srt.erase, fun x hx => ?_⟩
    simp only [List.mem_append] at hx
    rcases hx with hx | hx
    · exact h.each x (List.mem_of_mem_take hx)
    · exact h.each x (List.mem_of_mem_drop hx)
  · exact h
theorem Good.ticked {L : List One} (h : Good L) : Good (L.map tick1) := by
  refine ⟨h.srt.ticked, fun x hx => ?_⟩
  obtain ⟨y, hy, rfl⟩ := List.mem_map.1 hx
  obtain ⟨h1, h2, h3, h4⟩ := h.each y hy
  refine ⟨h1, h2, ?_, ?_⟩
  · show 0 ≤ (if y.age < 9223372036854775807 then y.age + 1 else y.age)
    split <;> omega
  · show (if y.age < 9223372036854775807 then y.age + 1 else y.age) ≤ 9223372036854775807
    split <;> omega
/-- What a schedule holds of one id. -/
def only (m : List UInt8) (L : List One) : List One := L.filter fun x => decide (x.id = m)
theorem only_add {m id : List UInt8} (h : id ≠ m) (L : List One) (p a : Int) : only m (addD L id p a).2 = only m L := by
  unfold addD
  split
  · rfl
  · split
    · rfl
    · unfold only
      rw [List.filter_append, List.filter_cons, if_neg (by simpa using h), ← List.filter_append, List.take_append_drop]
theorem only_rem {m id : List UInt8} (h : id ≠ m) (L : List One) : only m (remD L id).2 = only m L := by
  unfold remD
  split
  · rename_i hf
    unfold has foundAt at hf
    split at hf
    · rename_i x hx
      have hid : x.id = id := cmpB_zero _ _ (by simpa using hf)
      have hlt := (List.getElem?_eq_some_iff.1 hx).1
      have hL : L = L.take (place L id) ++ x :: L.drop (place L id + 1) := by
        have := List.getElem?_eq_some_iff.1 hx
        rw [← this.2, ← List.drop_eq_getElem_cons hlt, List.take_append_drop]
      unfold only
      conv => rhs; rw [hL]
      rw [List.filter_append, List.filter_append, List.filter_cons, if_neg (by rw [hid]; simpa using h)]
    · cases hf
  · rfl
theorem only_tick (m : List UInt8) (L : List One) : only m (L.map tick1) = (only m L).map tick1 := by
  unfold only
  rw [List.filter_map]
  rfl
theorem only_dues (m : List UInt8) (L : List One) : m ∈ dues L ↔ 1 ≤ (dues (only m L)).length := by
  unfold dues only
  rw [List.length_map, List.filter_filter]
  constructor
  · intro h
    obtain ⟨x, hx, rfl⟩ := List.mem_map.1 h
    rw [List.mem_filter] at hx
    refine List.length_pos_of_mem (a := x) (List.mem_filter.2 ⟨hx.1, by simpa using hx.2⟩)
  · intro h
    obtain ⟨x, hx⟩ := List.exists_mem_of_length_pos h
    rw [List.mem_filter] at hx
    simp at hx
    exact List.mem_map.2 ⟨x, List.mem_filter.2 ⟨hx.1, hx.2.1⟩, hx.2.2⟩
theorem only_first (m : List UInt8) (p a : Int) : only m (addD [] m p a).2 = (addD [] m p a).2 := by
  unfold addD
  split
  · rfl
  · split
    · rfl
    · simp [only, place]
end Cad
end Go.Proofs.YtmonkggoilhngaaGreatDoor
/- The document's schedule: where one is found, when one is due next; the lists that are held against each other. -/
namespace Go.Proofs.YtmonkggoilhngaaGreatDoor
open Go.RowKit Bits Mem Sha
namespace Cad
/-- A row of entries, of whatever type: what is read of one, and its age stored. -/
theorem row_cellsE {w : World} {e : TypeId} {B g c n k : Nat} {L : List One} {x : One} (h : Ow w B e 3 (.slice (some ⟨g, 0, none⟩) n c) n (ones L)) (hn : L.length = n) (hx : L[k]? = some x) :
    w.cell? ⟨g, k * 3, none⟩ = some (.string ⟨x.id.toArray⟩) ∧ w.cell? ⟨g, k * 3 + 1, none⟩ = some (.int .i64 x.period) ∧ w.cell? ⟨g, k * 3 + 2, none⟩ = some (.int .i64 x.age) ∧ w.frozen? ⟨g, k * 3 + 2, none⟩ = false ∧
    ∀ a : Int, Ow (w.setCell ⟨g, k * 3 + 2, none⟩ (.int .i64 a)) B e 3 (.slice (some ⟨g, 0, none⟩) n c) n (ones (L.set k { x with age := a })) := by
  have hk := (List.getElem?_eq_some_iff.1 hx).1
  have hl := ones_length L
  obtain ⟨h1, h2⟩ := h
  rcases h2 with ⟨hv, _⟩ | ⟨g', cap, cur, fz, hv, hb, hg, hf, hnc, hcm, hcs, ht⟩
  · cases hv
  · cases hv
    have hle : n * 3 ≤ c * 3 := Nat.mul_le_mul_right _ hnc
    have hc : ∀ j, j < 3 → cur[k * 3 + j]? = (oneA x).toList[j]? := fun j hj => by
      rw [← ones_get L k x hx j hj, ← ht, List.getElem?_take, if_pos (by omega), Array.getElem?_toList]
    refine ⟨by have := hc 0 (by decide); rw [cell_of_row w g _ _ _ _ hg]; exact this, by rw [cell_of_row w g _ _ _ _ hg]; exact hc 1 (by decide), by rw [cell_of_row w g _ _ _ _ hg]; exact hc 2 (by decide), ?_, fun a => ?_⟩
    · have := hf (k * 3 + 2) (by omega)
      simp only [World.frozen?, hg]
      simpa using this
    · have hls := ones_length (L.set k { x with age := a })
      rw [List.length_set] at hls
      refine ⟨by omega, .inr ⟨g, c, cur.setIfInBounds (k * 3 + 2) (.int .i64 a), fz, rfl, hb, ?_, ?_, hnc, hcm, by simpa using hcs, ?_⟩⟩
      · rw [setCell_eq_setRow w g _ cur _ fz _ hg]
        exact setRow_heap w g cur _ _ fz hg
      · intro i hi
        rw [Array.size_setIfInBounds] at hi
        exact hf i hi
      · refine List.ext_getElem? fun j => ?_
        rw [List.getElem?_take]
        by_cases hj : j < n * 3
        · rw [if_pos hj, Array.getElem?_toList, Array.getElem?_setIfInBounds]
          obtain ⟨y, r, hr, rfl⟩ : ∃ y r, r < 3 ∧ j = y * 3 + r := ⟨j / 3, j % 3, Nat.mod_lt _ (by decide), by omega⟩
          have hy : y < L.length := by omega
          have ho : cur[y * 3 + r]? = (ones L)[y * 3 + r]? := by rw [← ht, List.getElem?_take, if_pos hj, Array.getElem?_toList]
          by_cases hyk : y = k
          · subst hyk
            have e1 := ones_get (L.set y { x with age := a }) y { x with age := a } (by rw [List.getElem?_set_self hy]) r hr
            rw [e1]
            by_cases hr2 : r = 2
            · subst hr2
              rw [if_pos rfl, if_pos (by omega)]
              rfl
            · rw [if_neg (by omega), hc r hr]
              have : r = 0 ∨ r = 1 := by omega
              rcases this with rfl | rfl <;> rfl
          · obtain ⟨z, hz⟩ : ∃ z, L[y]? = some z := ⟨_, List.getElem?_eq_getElem hy⟩
            rw [if_neg (by omega), ho, ones_get L y z hz r hr, ones_get _ y z (by rw [List.getElem?_set_ne (fun e => hyk e.symm)]; exact hz) r hr]
        · rw [if_neg hj, List.getElem?_eq_none (by omega)]
theorem cmpB_less : ∀ (a b : List UInt8), Op.bytesLess a b = decide (cmpB a b < 0)
  | [], [] => rfl
  | _ :: _, [] => rfl
  | [], _ :: _ => rfl
  | x :: a, y :: b => by
    have ih := cmpB_less a b
    unfold cmpB at ih ⊢
    unfold Op.bytesLess Lib.compareBytes
    by_cases h1 : x < y
    · rw [if_pos h1, decide_eq_true h1]; rfl
    · rw [if_neg h1]
      by_cases h2 : y < x
      · have : ¬ x = y := by intro e; subst e; exact h1 h2
        rw [if_pos h2, decide_eq_false h1, beq_eq_false_iff_ne.2 this]; rfl
      · have := u8eq h1 h2
        subst this
        rw [if_neg h2, decide_eq_false h1, ← ih]
        simp
/-- Where the document finds one. -/
def findD (L : List One) (id : List UInt8) : Int := if has L id then (place L id : Int) else -1
theorem findD_at {L : List One} (h : Srt L) {id : List UInt8} {k : Nat} {x : One} (hx : L[k]? = some x) (he : x.id = id) : findD L id = k ∧ has L id = true ∧ place L id = k := by
  subst he
  have hlt := (List.getElem?_eq_some_iff.1 hx).1
  have hs : Stands L x.id k := ⟨Nat.le_of_lt hlt, fun j y hj hy => h j k y x hj hy hx, fun j y hj hy => by
    rcases Nat.lt_or_eq_of_le hj with hl | rfl
    · have := h k j x y hl hx hy
      rw [cmpB_swap x.id y.id]
      omega
    · rw [hx] at hy; cases hy; rw [cmpB_self]; exact Int.le_refl _⟩
  have hp := hs.place_eq
  have hh : has L x.id = true := by
    unfold has foundAt
    rw [← hp, hx]
    simp [cmpB_self]
  exact ⟨by unfold findD; rw [if_pos hh, ← hp], hh, hp.symm⟩
theorem findD_none {L : List One} {id : List UInt8} (h : ∀ (k : Nat) (x : One), L[k]? = some x → ¬ x.id = id) : findD L id = -1 ∧ has L id = false := by
  have hh : has L id = false := by
    unfold has foundAt
    split
    · rename_i x hx
      refine decide_eq_false fun e => h _ x hx (cmpB_zero _ _ e)
    · rfl
  exact ⟨by unfold findD; rw [if_neg (by rw [hh]; decide)], hh⟩
end Cad
end Go.Proofs.YtmonkggoilhngaaGreatDoor
/- The walks of the schedule's Next, Age and Ids, on any schedule; Tick at the last tick; none's answers. -/
namespace Go.Proofs.YtmonkggoilhngaaGreatDoor
open Go.RowKit Bits Mem Sha
namespace Cad
/-- When one is due next, and the error. -/
def nextOne (x : One) (now : Int) : Int × Int :=
  if 9223372036854775807 - x.age < x.period - x.age % x.period then
    if 9223372036854775807 % x.period = 0 then
      if 1 ≤ 9223372036854775807 - x.age then
        if 9223372036854775807 - now < 9223372036854775807 - x.age then (0, 8) else (now + (9223372036854775807 - x.age), 0)
      else if 9223372036854775807 - now < 1 then (0, 8) else (now + 1, 0)
    else (0, 8)
  else if 9223372036854775807 - now < x.period - x.age % x.period then (0, 8) else (now + (x.period - x.age % x.period), 0)
def nextD (L : List One) (now : Int) (id : List UInt8) : Int × Int := match (if has L id then L[place L id]? else none) with
  | some x => nextOne x now
  | none => (0, 10)
theorem has_some {L : List One} {id : List UInt8} (h : has L id = true) : ∃ x, L[place L id]? = some x ∧ x.id = id := by
  unfold has foundAt at h
  split at h
  · rename_i x hx; exact ⟨x, hx, cmpB_zero _ _ (by simpa using h)⟩
  · cases h
theorem nextD_some {L : List One} {now : Int} {id : List UInt8} {x : One} (h : has L id = true) (hx : L[place L id]? = some x) : nextD L now id = nextOne x now := by
  unfold nextD; rw [if_pos h, hx]
theorem nextD_none {L : List One} {now : Int} {id : List UInt8} (h : has L id = false) : nextD L now id = (0, 10) := by
  unfold nextD; rw [if_neg (by rw [h]; decide)]
/-- How old one is. -/
def ageD (L : List One) (id : List UInt8) : Int × Int := match (if has L id then L[place L id]? else none) with
  | some x => (x.age, 0)
  | none => (0, 10)
end Cad
end Go.Proofs.YtmonkggoilhngaaGreatDoor

/- Add and Remove as functions of the schedule; what they and a tick leave of one id. -/
import Derived.Test.YtmkoiddfkanmiaaDoorCadN
namespace Go.Proofs.YtmkoiddfkanmiaaDoor
open Go.RowKit Bits Mem Sha
namespace Cad
/-- Where an id stands, as a number. -/
def place (L : List One) (id : List UInt8) : Nat := (L.takeWhile fun x => decide (cmpB x.id id < 0)).length
theorem Stands.place_eq : ∀ {L : List One} {id : List UInt8} {n : Nat}, Stands L id n → n = place L id
  | [], id, n, h => by have := h.le; simp at this; subst this; rfl
  | x :: L, id, 0, h => by
    have := h.high 0 x (Nat.le_refl _) rfl
    unfold place
    rw [List.takeWhile_cons, if_neg (by simp; omega)]
    rfl
  | x :: L, id, n + 1, h => by
    have h0 := h.low 0 x (by omega) rfl
    have ih := Stands.place_eq (L := L) (id := id) (n := n) ⟨by have := h.le; simpa using this, fun k y hk hy => h.low (k + 1) y (by omega) (by simpa using hy), fun k y hk hy => h.high (k + 1) y (by omega) (by simpa using hy)⟩
    unfold place at ih ⊢
    rw [List.takeWhile_cons, if_pos (by simp; omega), List.length_cons, ← ih]
theorem Mono.stands : ∀ {L : List One} {id : List UInt8}, Mono L id → Stands L id (place L id)
  | [], id, _ => ⟨Nat.le_refl _, fun k x _ h => by simp at h, fun k x _ h => by simp at h⟩
  | x :: L, id, h => by
    have ih := Mono.stands (L := L) (id := id) (fun i j y z hij hy hz => h (i + 1) (j + 1) y z (by omega) (by simpa using hy) (by simpa using hz))
    by_cases hx : cmpB x.id id < 0
    · have e : place (x :: L) id = place L id + 1 := by
        unfold place
        rw [List.takeWhile_cons, if_pos (by simpa using hx)]
        rfl
      rw [e]
      refine ⟨by have := ih.le; simpa using this, fun k y hk hy => ?_, fun k y hk hy => ?_⟩
      · cases k with
        | zero => cases hy; exact hx
        | succ k => exact ih.low k y (by omega) (by simpa using hy)
      · cases k with
        | zero => omega
        | succ k => exact ih.high k y (by omega) (by simpa using hy)
    · have e : place (x :: L) id = 0 := by
        unfold place
        rw [List.takeWhile_cons, if_neg (by simpa using hx)]
        rfl
      rw [e]
      refine ⟨Nat.zero_le _, fun k y hk hy => by omega, fun k y hk hy => ?_⟩
      refine Int.not_lt.1 fun hlt => hx (h 0 k x y (Nat.zero_le _) rfl hy hlt)
def has (L : List One) (id : List UInt8) : Bool := foundAt L id (place L id)
/-- One more: the error, and the schedule. -/
def addD (L : List One) (id : List UInt8) (p a : Int) : Int × List One :=
  if p < 1 ∨ 1000 < p ∨ a < 0 then (1, L) else if has L id then (11, L) else (0, L.take (place L id) ++ ⟨id, p, a⟩ :: L.drop (place L id))
def remD (L : List One) (id : List UInt8) : Int × List One := if has L id then (0, L.take (place L id) ++ L.drop (place L id + 1)) else (10, L)
/-- A schedule as it can be. -/
structure Good (L : List One) : Prop where
  srt : Srt L
  each : ∀ x ∈ L, 1 ≤ x.period ∧ x.period ≤ 1000 ∧ 0 ≤ x.age ∧ x.age ≤ 9223372036854775807
theorem Good.nil : Good [] := ⟨fun i j x y _ h => by simp at h, fun x h => by cases h⟩
theorem addD_length (L : List One) (id : List UInt8) (p a : Int) : (addD L id p a).2.length ≤ L.length + 1 := by
  unfold addD
  split
  · simp
  · split
    · simp
    · simp; omega
theorem remD_length (L : List One) (id : List UInt8) : (remD L id).2.length ≤ L.length := by
  unfold remD
  split
  · simp; omega
  · simp
theorem Good.addD {L : List One} (h : Good L) (id : List UInt8) (p a : Int) (ha : a ≤ 9223372036854775807) : Good (addD L id p a).2 := by
  unfold Cad.addD
  split
  · exact h
  · split
    · exact h
    · rename_i hb hf
      refine ⟨h.srt.insert (z := ⟨id, p, a⟩) (h.srt.mono id).stands (by simpa [has] using hf), fun x hx => ?_⟩
      simp only [List.mem_append, List.mem_cons] at hx
      rcases hx with hx | rfl | hx
      · exact h.each x (List.mem_of_mem_take hx)
      · exact ⟨by show 1 ≤ p; omega, by show p ≤ 1000; omega, by show 0 ≤ a; omega, ha⟩
      · exact h.each x (List.mem_of_mem_drop hx)
theorem Good.remD {L : List One} (h : Good L) (id : List UInt8) : Good (remD L id).2 := by
  unfold Cad.remD
  split
  · refine ⟨h.srt.erase, fun x hx => ?_⟩
    simp only [List.mem_append] at hx
    rcases hx with hx | hx
    · exact h.each x (List.mem_of_mem_take hx)
    · exact h.each x (List.mem_of_mem_drop hx)
  · exact h
theorem Good.ticked {L : List One} (h : Good L) : Good (L.map tick1) := by
  refine ⟨h.srt.ticked, fun x hx => ?_⟩
  obtain ⟨y, hy, rfl⟩ := List.mem_map.1 hx
  obtain ⟨h1, h2, h3, h4⟩ := h.each y hy
  refine ⟨h1, h2, ?_, ?_⟩
  · show 0 ≤ (if y.age < 9223372036854775807 then y.age + 1 else y.age)
    split <;> omega
  · show (if y.age < 9223372036854775807 then y.age + 1 else y.age) ≤ 9223372036854775807
    split <;> omega
/-- What a schedule holds of one id. -/
def only (m : List UInt8) (L : List One) : List One := L.filter fun x => decide (x.id = m)
theorem only_add {m id : List UInt8} (h : id ≠ m) (L : List One) (p a : Int) : only m (addD L id p a).2 = only m L := by
  unfold addD
  split
  · rfl
  · split
    · rfl
    · unfold only
      rw [List.filter_append, List.filter_cons, if_neg (by simpa using h), ← List.filter_append, List.take_append_drop]
theorem only_rem {m id : List UInt8} (h : id ≠ m) (L : List One) : only m (remD L id).2 = only m L := by
  unfold remD
  split
  · rename_i hf
    unfold has foundAt at hf
    split at hf
    · rename_i x hx
      have hid : x.id = id := cmpB_zero _ _ (by simpa using hf)
      have hlt := (List.getElem?_eq_some_iff.1 hx).1
      have hL : L = L.take (place L id) ++ x :: L.drop (place L id + 1) := by
        have := List.getElem?_eq_some_iff.1 hx
        rw [← this.2, ← List.drop_eq_getElem_cons hlt, List.take_append_drop]
      unfold only
      conv => rhs; rw [hL]
      rw [List.filter_append, List.filter_append, List.filter_cons, if_neg (by rw [hid]; simpa using h)]
    · cases hf
  · rfl
theorem only_tick (m : List UInt8) (L : List One) : only m (L.map tick1) = (only m L).map tick1 := by
  unfold only
  rw [List.filter_map]
  rfl
theorem only_dues (m : List UInt8) (L : List One) : m ∈ dues L ↔ 1 ≤ (dues (only m L)).length := by
  unfold dues only
  rw [List.length_map, List.filter_filter]
  constructor
  · intro h
    obtain ⟨x, hx, rfl⟩ := List.mem_map.1 h
    rw [List.mem_filter] at hx
    refine List.length_pos_of_mem (a := x) (List.mem_filter.2 ⟨hx.1, by simpa using hx.2⟩)
  · intro h
    obtain ⟨x, hx⟩ := List.exists_mem_of_length_pos h
    rw [List.mem_filter] at hx
    simp at hx
    exact List.mem_map.2 ⟨x, List.mem_filter.2 ⟨hx.1, hx.2.1⟩, hx.2.2⟩
theorem only_first (m : List UInt8) (p a : Int) : only m (addD [] m p a).2 = (addD [] m p a).2 := by
  unfold addD
  split
  · rfl
  · split
    · rfl
    · simp [only, place]
end Cad
end Go.Proofs.YtmkoiddfkanmiaaDoor

/- Rows of elements of many cells: what a copy within one and a clear do, and rows of one's own of which a part is written. -/
import Derived.Test.YtmonkggoilhngaaGreatDoorGConcW
import Derived.Laws.IdiomCopy
import Derived.Lib.Overlaps
import Derived.Lib.AppendZerosOnto
import Derived.Laws.Externs
import Derived.Deep.RegionLaw
namespace Go.Proofs.YtmonkggoilhngaaGreatDoor
open Go.RowKit
namespace Mem
section
variable {w w' : World} {B s n c g : Nat} {e : TypeId} {xs : List Value}
theorem Ow.cells (h : Ow w B e s (.slice (some ⟨g, 0, none⟩) n c) n xs) : ∀ j, j < c * s → (w.cell? ⟨g, j, none⟩).isSome = true ∧ w.frozen? ⟨g, j, none⟩ = false := by
  obtain ⟨h1, h2⟩ := h
  rcases h2 with ⟨hv, _⟩ | ⟨g', cap, cur, fz, hv, hb, hg, hf, hnc, hcm, hcs, ht⟩
  · cases hv
  · cases hv
    intro j hj
    refine ⟨by rw [cell_of_row w g _ _ _ _ hg, Array.getElem?_eq_getElem (by omega)]; rfl, ?_⟩
    have := hf j (by omega)
    simp only [World.frozen?, hg]
    simpa using this
theorem Ow.cap (h : Ow w B e s (.slice (some ⟨g, 0, none⟩) n c) n xs) : n ≤ c ∧ c ≤ maxLen ∧ B ≤ g ∧ g < w.heap.size := by
  have hl := h.lt g rfl
  rcases h.2 with ⟨hv, _⟩ | ⟨g', cap, cur, fz, hv, hb, hg, hf, hnc, hcm, hcs, ht⟩
  · cases hv
  · cases hv
    exact ⟨hnc, hcm, hl⟩
theorem Ow.cut (h : Ow w B e s (.slice (some ⟨g, 0, none⟩) n c) n xs) (m : Nat) (hm : m ≤ n) : Ow w B e s (.slice (some ⟨g, 0, none⟩) m c) m (xs.take (m * s)) := by
  obtain ⟨h1, h2⟩ := h
  rcases h2 with ⟨hv, _⟩ | ⟨g', cap, cur, fz, hv, hb, hg, hf, hnc, hcm, hcs, ht⟩
  · cases hv
  · cases hv
    have hmc : m * s ≤ n * s := Nat.mul_le_mul_right _ hm
    refine ⟨by rw [List.length_take]; omega, .inr ⟨g, c, cur, fz, rfl, hb, hg, hf, by omega, hcm, hcs, ?_⟩⟩
    rw [← ht, List.take_take, Nat.min_eq_left hmc]
theorem Ow.write (h : Ow w B e s (.slice (some ⟨g, 0, none⟩) n c) n xs) (o : Nat) (vs : List Value) (ho : o + vs.length ≤ n * s) :
    Ow (w.setCells g o vs) B e s (.slice (some ⟨g, 0, none⟩) n c) n (xs.take o ++ vs ++ xs.drop (o + vs.length)) ∧ w.grownBy (w.setCells g o vs) (some g) := by
  obtain ⟨h1, h2⟩ := h
  rcases h2 with ⟨hv, _⟩ | ⟨g', cap, cur, fz, hv, hb, hg, hf, hnc, hcm, hcs, ht⟩
  · cases hv
  · cases hv
    have hmc : n * s ≤ c * s := Nat.mul_le_mul_right _ hnc
    obtain ⟨cur', k1, k2, k3, k4⟩ := setCells_block g e fz vs o w cur hg
    refine ⟨⟨by simp only [List.length_append, List.length_take, List.length_drop]; omega, .inr ⟨g, c, cur', fz, rfl, hb, k1, fun j hj => hf j (by omega), hnc, hcm, by omega, ?_⟩⟩, k4⟩
    apply List.ext_getElem?
    intro j
    have hx : xs[j]? = if j < n * s then cur[j]? else none := by
      rw [← ht, List.getElem?_take]; simp
    rw [List.getElem?_take, Array.getElem?_toList, k3 j]
    by_cases hj : j < n * s
    · rw [if_pos hj]
      by_cases hjo : j < o
      · rw [if_neg (by omega), List.append_assoc, List.getElem?_append_left (by rw [List.length_take]; omega), List.getElem?_take, if_pos hjo, hx, if_pos hj]
      · by_cases hjv : j < o + vs.length
        · rw [if_pos (by omega), List.append_assoc, List.getElem?_append_right (by rw [List.length_take]; omega), List.length_take, Nat.min_eq_left (by omega), List.getElem?_append_left (by omega)]
        · rw [if_neg (by omega), List.getElem?_append_right (by simp only [List.length_append, List.length_take]; omega), List.getElem?_drop]
          simp only [List.length_append, List.length_take, Nat.min_eq_left (show o ≤ xs.length by omega)]
          rw [show o + vs.length + (j - (o + vs.length)) = j by omega, hx, if_pos hj]
    · rw [if_neg hj]
      rw [List.getElem?_eq_none]
      simp only [List.length_append, List.length_take, List.length_drop]
      omega
end
end Mem
end Go.Proofs.YtmonkggoilhngaaGreatDoor
/- slices.Insert of one element, anywhere in a row of one's own. -/
namespace Go.Proofs.YtmonkggoilhngaaGreatDoor
open Go.RowKit
namespace Mem
section
variable {P : Program}
theorem parts3M {t : TypeId} {z : Value} {s b : Nat} (h : (P.info? t).map (fun i => (i.zero, i.size, i.bytes)) = some (some z, s, b)) : ∃ i0, P.info? t = some i0 ∧ i0.zero = some z ∧ i0.size = s ∧ i0.bytes = b := by
  obtain ⟨i0, h1, h2⟩ := Option.map_eq_some_iff.1 h
  have h2 := Prod.mk.inj h2
  have h3 := Prod.mk.inj h2.2
  exact ⟨i0, h1, h2.1, h3.1, h3.2⟩
end
section
variable {w w' : World} {B s n c g : Nat} {e : TypeId} {xs : List Value} {q : Option Addr}
end
end Mem
namespace Cad
open Mem
end Cad
end Go.Proofs.YtmonkggoilhngaaGreatDoor
/- slices.Delete of one element, anywhere in a row of one's own. -/
namespace Go.Proofs.YtmonkggoilhngaaGreatDoor
open Go.RowKit
namespace Cad
open Mem
end Cad
end Go.Proofs.YtmonkggoilhngaaGreatDoor
/- slices.Insert of one tenant, anywhere in a row of one's own. -/
namespace Go.Proofs.YtmonkggoilhngaaGreatDoor
open Go.RowKit
namespace Ten
open Mem
end Ten
end Go.Proofs.YtmonkggoilhngaaGreatDoor

/- The walks of the schedule's Add and Remove, whole: a sorted schedule stays one. -/
import Derived.Test.YtmkoiddfkanmiaaDoorSlD
import Derived.Test.YtmkoiddfkanmiaaDoorCadJ
import Derived.Test.YtmkoiddfkanmiaaDoorCadK
namespace Go.Proofs.YtmkoiddfkanmiaaDoor
open Go.RowKit Bits Mem Sha
namespace Cad
theorem ones_append (A B : List One) : ones (A ++ B) = ones A ++ ones B := by simp [ones]
theorem ones_cons (x : One) (B : List One) : ones (x :: B) = (oneA x).toList ++ ones B := by simp [ones, oneA]
theorem ones_take : ∀ (L : List One) (n : Nat), (ones L).take (n * 3) = ones (L.take n)
  | [], n => by simp [ones]
  | x :: L, 0 => by simp [ones]
  | x :: L, n + 1 => by
    rw [List.take_succ_cons, ones_cons, ones_cons, ← ones_take L n, List.take_append, List.take_of_length_le (by simp [oneA]; omega)]
    congr 2
    simp [oneA]
    omega
theorem ones_drop : ∀ (L : List One) (n : Nat), (ones L).drop (n * 3) = ones (L.drop n)
  | [], n => by simp [ones]
  | x :: L, 0 => by simp
  | x :: L, n + 1 => by
    rw [List.drop_succ_cons, ones_cons, ← ones_drop L n, List.drop_append, List.drop_eq_nil_of_le (by simp [oneA]; omega), List.nil_append]
    congr 1
    simp [oneA]
    omega
theorem ones_one (L : List One) : ∀ u ∈ ones L, u.oneCell' = true := by
  intro u hu
  simp only [ones, List.mem_flatMap] at hu
  obtain ⟨x, _, hx⟩ := hu
  simp at hx
  rcases hx with rfl | rfl | rfl <;> rfl
theorem Stands.uniq {L : List One} {id : List UInt8} {n m : Nat} (h : Stands L id n) (h' : Stands L id m) : n = m := by
  rcases Nat.lt_trichotomy n m with hlt | rfl | hlt
  · obtain ⟨x, hx⟩ : ∃ x, L[n]? = some x := ⟨_, List.getElem?_eq_getElem (by have := h'.le; omega)⟩
    have := h.high n x (Nat.le_refl _) hx
    have := h'.low n x hlt hx
    omega
  · rfl
  · obtain ⟨x, hx⟩ : ∃ x, L[m]? = some x := ⟨_, List.getElem?_eq_getElem (by have := h.le; omega)⟩
    have := h'.high m x (Nat.le_refl _) hx
    have := h.low m x hlt hx
    omega
/-- Where a slice's block may lie behind a call: where it lay, or in what was made. -/
def Grew (w : World) (q : Option Addr) (c n : Nat) (q' : Option Addr) (n' c' : Nat) : Prop := ∀ k, (Value.slice q' n' c').ownBlock = some k → (Value.slice q n c).ownBlock = some k ∨ w.heap.size ≤ k
end Cad
end Go.Proofs.YtmkoiddfkanmiaaDoor

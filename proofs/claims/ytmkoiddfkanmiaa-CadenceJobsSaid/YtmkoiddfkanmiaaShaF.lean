/- The walks of sha2: Sum of nil, Sum of parts. -/
import Derived.Test.YtmkoiddfkanmiaaShaE
namespace Go.Proofs.Ytmkoiddfkanmiaa
open Go.RowKit Bits Mem
namespace Sha
theorem Rd_own_lt {w : World} {size : Nat} {v : Value} {n : Nat} {xs : List Value} (h : Rd w size v n xs) {k : Nat} (hk : v.ownBlock = some k) : k < w.heap.size := by
  rcases h.2 with ⟨rfl, _⟩ | ⟨b, off, cap, rfl, hb, _⟩
  · cases hk
  · cases hk; exact hb
/-- A slice of slices of bytes that reads as the list L. -/
def Parts (w : World) (v : Value) (L : List (List UInt8)) : Prop :=
  ∃ vs : List Value, Rd w 1 v L.length vs ∧ ∀ i, i < L.length → ∃ q c, vs[i]? = some (.slice q (L.getD i []).length c) ∧ Rd w 1 (.slice q (L.getD i []).length c) (L.getD i []).length (bys (L.getD i []))
theorem Parts.below {w w' : World} {v : Value} {L : List (List UInt8)} (h : Parts w v L) (hb : Below w.heap.size w w') : Parts w' v L := by
  obtain ⟨vs, h1, h2⟩ := h
  refine ⟨vs, h1.below hb, fun i hi => ?_⟩
  obtain ⟨q, c, e, hr⟩ := h2 i hi
  exact ⟨q, c, e, hr.below hb⟩
theorem flatten_take_succ (L : List (List UInt8)) (k : Nat) (h : k < L.length) : (L.take (k + 1)).flatten = (L.take k).flatten ++ L.getD k [] := by
  rw [List.take_succ_eq_append_getElem h, List.flatten_append]; simp [List.getD, h]
theorem flatten_take_le (L : List (List UInt8)) (k : Nat) (h : k < L.length) : (L.take k).flatten.length + (L.getD k []).length ≤ L.flatten.length := by
  have h1 := flatten_take_succ L k h
  have h2 : L.flatten = (L.take (k + 1)).flatten ++ (L.drop (k + 1)).flatten := by rw [← List.flatten_append, List.take_append_drop]
  rw [h2, h1]; simp only [List.length_append]; omega
end Sha
end Go.Proofs.Ytmkoiddfkanmiaa

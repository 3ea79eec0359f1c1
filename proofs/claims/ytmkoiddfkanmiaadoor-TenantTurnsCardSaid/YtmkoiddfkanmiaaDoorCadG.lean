/- The walk of the schedule's Next, on a schedule of one. -/
import Derived.Test.YtmkoiddfkanmiaaDoorCadF
namespace Go.Proofs.YtmkoiddfkanmiaaDoor
open Go.RowKit Bits Mem Sha
namespace Cad
theorem mono_one (x : One) : Mono [x] x.id := by
  intro i j a b hij ha hb h
  have hi := (List.getElem?_eq_some_iff.1 ha).1
  have hj := (List.getElem?_eq_some_iff.1 hb).1
  have h1 : i = 0 := by simp at hi; omega
  have h2 : j = 0 := by simp at hj; omega
  subst h1 h2
  rw [ha] at hb
  cases hb
  exact h
theorem stands_one {x : One} {n : Nat} (hs : cmpB x.id x.id = 0) (h : Stands [x] x.id n) : n = 0 := by
  rcases Nat.eq_zero_or_pos n with h0 | h0
  · exact h0
  · have := h.low 0 x h0 rfl
    omega
theorem found_one {x : One} (hs : cmpB x.id x.id = 0) : foundAt [x] x.id 0 = true := by
  show decide (cmpB x.id x.id = 0) = true
  rw [hs]; rfl
end Cad
end Go.Proofs.YtmkoiddfkanmiaaDoor

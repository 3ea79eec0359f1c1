/- The walk of custumallaw18.ChainMakes. -/
import Derived.Test.YtkembhonfehlbaaDoorChainN
import Derived.Test.YtkembhonfehlbaaDoorForks
namespace Go.Proofs.YtkembhonfehlbaaDoor
open Go.RowKit Bits Mem Sha
namespace Ref
theorem Rd_of_mid {w : World} {g o n : Nat} {l r s : List UInt8} {t : TypeId} {f : Nat × Nat} (h : w.heap[g]? = some (.cells (bysA (l ++ (r ++ s))) t f)) (ho : l.length = o) (hn : r.length = n) (hm : n ≤ maxLen) : Rd w 1 (.slice (some ⟨g, o, none⟩) n n) n (bys r) := by
  subst ho hn
  refine ⟨by rw [bys_length]; omega, .inr ⟨g, l.length, r.length, rfl, lt_of_heap h, Nat.le_refl _, hm, fun j u hu => ?_⟩⟩
  rw [cell_of_row w g _ _ _ _ h]
  have hj := (List.getElem?_eq_some_iff.1 hu).1
  rw [bys_length] at hj
  simp only [bysA, List.getElem?_toArray, bys_append]
  rw [List.getElem?_append_right (by rw [bys_length]; omega), bys_length, Nat.add_sub_cancel_left, List.getElem?_append_left (by rw [bys_length]; exact hj)]
  exact hu
theorem load_mid {w : World} {g o : Nat} {l r s : List UInt8} {t : TypeId} {f : Nat × Nat} (h : w.heap[g]? = some (.cells (bysA (l ++ (r ++ s))) t f)) (ho : l.length = o) (hn : r.length = 32) : (Instr.loadAt 22 (.pointer (some ⟨g, o, none⟩))).run Tryd.prog w = .ok (.agg (bysA r)) w := by
  subst ho
  refine run_loadAt_mid w g l.length _ (bys r) _ ?_ Tryd.underlying22 rfl ?_
  · intro j v hv
    have hj := (List.getElem?_eq_some_iff.1 hv).1
    rw [bys_length] at hj
    rw [cell_of_row w g _ _ _ _ h]
    simp only [bysA, List.getElem?_toArray, bys_append]
    rw [List.getElem?_append_right (by rw [bys_length]; omega), bys_length, Nat.add_sub_cancel_left, List.getElem?_append_left (by rw [bys_length]; exact hj)]
    exact hv
  · rw [bys_length, hn]; exact info32
end Ref
end Go.Proofs.YtkembhonfehlbaaDoor

/- The walks of custumallaw01.sums and of Sha2Sums. -/
import Derived.Test.YtmkoiddfkanmiaaDoorFew
import Derived.Test.YtmkoiddfkanmiaaDoorRefB
import Derived.Lib.SlBytesConst
namespace Go.Proofs.YtmkoiddfkanmiaaDoor
open Go.RowKit Bits Mem Sha
namespace Ref
theorem Rd_of_row {w : World} {g n : Nat} {l : List UInt8} {t : TypeId} {f : Nat × Nat} (h : w.heap[g]? = some (.cells (bysA l) t f)) (hn : l.length = n) (hm : n ≤ maxLen) : Rd w 1 (.slice (some ⟨g, 0, none⟩) n n) n (bys l) := by
  subst hn
  refine ⟨by rw [bys_length]; omega, .inr ⟨g, 0, l.length, rfl, lt_of_heap h, Nat.le_refl _, hm, fun j u hu => ?_⟩⟩
  rw [Nat.zero_add, cell_of_row w g j _ _ _ h]
  simpa [bysA] using hu
theorem sha_abc : bt (sha [97, 98, 99]) 0 = 186 ∧ bt (sha [97, 98, 99]) 1 = 120 ∧ bt (sha [97, 98, 99]) 31 = 173 := by decide +kernel
theorem cell_of_bys {w : World} {g k : Nat} {l : List UInt8} {t : TypeId} {f : Nat × Nat} (h : w.heap[g]? = some (.cells (bysA l) t f)) (hk : k < l.length) : w.cell? ⟨g, k, none⟩ = some (.int .u8 ((bt l k).toNat : Int)) := by
  rw [cell_of_row w g k _ _ _ h]
  have := bys_get l k hk
  simpa [bysA, bt] using this
theorem Parts.lit2 (w : World) (a b : List UInt8) (x y : Value) (hx : ∃ q c, x = .slice q a.length c ∧ Rd w 1 (.slice q a.length c) a.length (bys a)) (hy : ∃ q c, y = .slice q b.length c ∧ Rd w 1 (.slice q b.length c) b.length (bys b)) :
    Parts (w.alloc (.cells #[x, y] 24)) (.slice (some ⟨w.heap.size, 0, none⟩) 2 2) [a, b] := by
  have hb : Below w.heap.size w (w.alloc (.cells #[x, y] 24)) := (Below.refl _ _).alloc (Nat.le_refl _) _
  refine ⟨[x, y], Rd_lit w #[x, y] 24 1 2 rfl (by decide), fun i hi => ?_⟩
  obtain ⟨q, c, rfl, hx⟩ := hx
  obtain ⟨q', c', rfl, hy⟩ := hy
  match i, hi with
  | 0, _ => exact ⟨q, c, rfl, hx.below hb⟩
  | 1, _ => exact ⟨q', c', rfl, hy.below hb⟩
end Ref
end Go.Proofs.YtmkoiddfkanmiaaDoor

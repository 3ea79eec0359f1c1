/- The walks of the schedule's find and get. -/
import Derived.Test.YtmkoiddfkanmiaaDoorCadA
namespace Go.Proofs.YtmkoiddfkanmiaaDoor
open Go.RowKit Bits Mem Sha
namespace Cad
/-- A guarded operation that runs is as one without a guard. -/
theorem unguard16 {P : Program} {ops : Array Oper} {rest : List Oper} {o : Oper} {a : Act} {w : World} {Q : Exit → Act → World → Prop} (hw : Region.wanted o (yielded ops a.tmps) = true)
    (h : wpList P ops Q ({ o with guard := none } :: rest) a w) : wpList P ops Q (o :: rest) a w := by
  cases o
  unfold wpList at h ⊢
  rw [if_pos hw]
  split at h
  · exact h
  · rename_i h'; exact absurd rfl h'
theorem ones_length (L : List One) : (ones L).length = L.length * 3 := by
  unfold ones
  induction L with
  | nil => rfl
  | cons x L ih => simp [List.flatMap_cons, ih]; omega
theorem ones_get : ∀ (L : List One) (k : Nat) (x : One), L[k]? = some x → ∀ j, j < 3 → (ones L)[k * 3 + j]? = (oneA x).toList[j]?
  | [], _, _, h, _, _ => by simp at h
  | y :: L, 0, x, h, j, hj => by
    cases h
    unfold ones oneA
    rw [List.flatMap_cons, List.getElem?_append_left (by simp; omega)]
    simp
  | y :: L, k + 1, x, h, j, hj => by
    have := ones_get L k x (by simpa using h) j hj
    rw [← this]
    unfold ones
    rw [List.flatMap_cons, List.getElem?_append_right (by simp; omega)]
    congr 1
    simp
    omega
/-- Where an id stands: all ahead of it come before it, none behind. -/
structure Stands (L : List One) (id : List UInt8) (n : Nat) : Prop where
  le : n ≤ L.length
  low : ∀ k x, k < n → L[k]? = some x → cmpB x.id id < 0
  high : ∀ k x, n ≤ k → L[k]? = some x → 0 ≤ cmpB x.id id
def foundAt (L : List One) (id : List UInt8) (n : Nat) : Bool := match L[n]? with
  | some x => decide (cmpB x.id id = 0)
  | none => false
end Cad
end Go.Proofs.YtmkoiddfkanmiaaDoor

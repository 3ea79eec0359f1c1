/- The walk of the schedule's Tick. -/
import Derived.Test.YtmkoiddfkanmiaaDoorCadC
namespace Go.Proofs.YtmkoiddfkanmiaaDoor
open Go.RowKit Bits Mem Sha
namespace Cad
def most : Int := 9223372036854775807
def tick1 (x : One) : One := { x with age := if x.age < 9223372036854775807 then x.age + 1 else x.age }
def isDue (x : One) : Bool := (tick1 x).age.tmod x.period == 0
def dues (L : List One) : List (List UInt8) := (L.filter isDue).map (·.id)
def ticked (k : Nat) (L : List One) : List One := (L.take k).map tick1 ++ L.drop k
theorem ticked_length (k : Nat) (L : List One) : (ticked k L).length = L.length := by simp [ticked]; omega
theorem ticked_at {k : Nat} {L : List One} {x : One} (hx : L[k]? = some x) : (ticked k L)[k]? = some x := by
  have hk := (List.getElem?_eq_some_iff.1 hx).1
  unfold ticked
  rw [List.getElem?_append_right (by simp; omega)]
  simp [Nat.min_eq_left (Nat.le_of_lt hk)]
  simpa using hx
theorem ticked_succ {k : Nat} {L : List One} {x : One} (hx : L[k]? = some x) : ticked (k + 1) L = (ticked k L).set k (tick1 x) := by
  have hk := (List.getElem?_eq_some_iff.1 hx).1
  refine List.ext_getElem? fun i => ?_
  unfold ticked
  rw [List.getElem?_set]
  by_cases h1 : i < k
  · rw [List.getElem?_append_left (by simp; omega), if_neg (by omega), List.getElem?_append_left (by simp; omega)]
    simp [h1, show i < k + 1 by omega]
  · by_cases h2 : i = k
    · subst h2
      rw [List.getElem?_append_left (by simp; omega), if_pos rfl, if_pos (by simp; omega)]
      simp [hx]
    · rw [List.getElem?_append_right (by simp; omega), if_neg (fun e => h2 e.symm), List.getElem?_append_right (by simp; omega)]
      simp only [List.length_map, List.length_take, List.getElem?_drop]
      congr 1
      omega
theorem dues_succ {k : Nat} {L : List One} {x : One} (hx : L[k]? = some x) : dues (L.take (k + 1)) = dues (L.take k) ++ (if isDue x then [x.id] else []) := by
  unfold dues
  rw [List.take_add_one, hx, List.filter_append, List.map_append]
  congr 1
  simp only [Option.toList_some, List.filter_cons, List.filter_nil]
  split <;> rfl
theorem oneA_getD (x : One) : (oneA x).toList = [.string ⟨x.id.toArray⟩, .int .i64 x.period, .int .i64 x.age] := rfl
end Cad
end Go.Proofs.YtmkoiddfkanmiaaDoor

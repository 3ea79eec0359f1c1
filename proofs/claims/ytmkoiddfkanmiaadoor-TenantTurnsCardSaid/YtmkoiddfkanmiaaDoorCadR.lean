/- The walks of the schedule's Next, Age and Ids, on any schedule; Tick at the last tick; none's answers. -/
import Derived.Test.YtmkoiddfkanmiaaDoorCadQ
namespace Go.Proofs.YtmkoiddfkanmiaaDoor
open Go.RowKit Bits Mem Sha
namespace Cad
/-- When one is due next, and the error. -/
def nextOne (x : One) (now : Int) : Int × Int :=
  if 9223372036854775807 - x.age < x.period - x.age % x.period then
    if 9223372036854775807 % x.period = 0 then
      if 1 ≤ 9223372036854775807 - x.age then
        if 9223372036854775807 - now < 9223372036854775807 - x.age then (0, 8) else (now + (9223372036854775807 - x.age), 0)
      else if 9223372036854775807 - now < 1 then (0, 8) else (now + 1, 0)
    else (0, 8)
  else if 9223372036854775807 - now < x.period - x.age % x.period then (0, 8) else (now + (x.period - x.age % x.period), 0)
def nextD (L : List One) (now : Int) (id : List UInt8) : Int × Int := match (if has L id then L[place L id]? else none) with
  | some x => nextOne x now
  | none => (0, 10)
theorem has_some {L : List One} {id : List UInt8} (h : has L id = true) : ∃ x, L[place L id]? = some x ∧ x.id = id := by
  unfold has foundAt at h
  split at h
  · rename_i x hx; exact ⟨x, hx, cmpB_zero _ _ (by simpa using h)⟩
  · cases h
theorem nextD_some {L : List One} {now : Int} {id : List UInt8} {x : One} (h : has L id = true) (hx : L[place L id]? = some x) : nextD L now id = nextOne x now := by
  unfold nextD; rw [if_pos h, hx]
theorem nextD_none {L : List One} {now : Int} {id : List UInt8} (h : has L id = false) : nextD L now id = (0, 10) := by
  unfold nextD; rw [if_neg (by rw [h]; decide)]
/-- How old one is. -/
def ageD (L : List One) (id : List UInt8) : Int × Int := match (if has L id then L[place L id]? else none) with
  | some x => (x.age, 0)
  | none => (0, 10)
end Cad
end Go.Proofs.YtmkoiddfkanmiaaDoor

/- The walks of the schedule's comparison, New and Now. -/
import Derived.Test.YtmonkggoilhngaaGreatDoorGConcW
import Derived.Test.YtmonkggoilhngaaGreatDoorConc
import Derived.Test.YtmonkggoilhngaaGreatDoorGRegion
import Derived.Test.YtmonkggoilhngaaGreatDoorGSlM
import Derived.Lib.Bytealg
import Derived.Laws.Externs
namespace Go.Proofs.YtmonkggoilhngaaGreatDoor
open Go.RowKit Bits Mem
namespace Cad
def cmpB (a b : List UInt8) : Int := Lib.compareBytes a b
structure One where
  id : List UInt8
  period : Int
  age : Int
def ones (L : List One) : List Value := L.flatMap fun x => [.string ⟨x.id.toArray⟩, .int .i64 x.period, .int .i64 x.age]
end Cad
end Go.Proofs.YtmonkggoilhngaaGreatDoor
/- The walks of the schedule's find and get. -/
namespace Go.Proofs.YtmonkggoilhngaaGreatDoor
open Go.RowKit Bits Mem Sha
namespace Cad
theorem unguard16 {P : Program} {ops : Array Oper} {rest : List Oper} {o : Oper} {a : Act} {w : World} {Q : Exit → Act → World → Prop} (hw : Region.wanted o (yielded ops a.tmps) = true)
    (h : wpList P ops Q ({ o with guard := none } :: rest) a w) : wpList P ops Q (o :: rest) a w := by
  cases o
  unfold wpList at h ⊢
  rw [if_pos hw]
  split at h
  · exact h
  · rename_i h'; exact absurd rfl h'
def foundAt (L : List One) (id : List UInt8) (n : Nat) : Bool := match L[n]? with
  | some x => decide (cmpB x.id id = 0)
  | none => false
end Cad
end Go.Proofs.YtmonkggoilhngaaGreatDoor
/- The walks of the schedule's find and get. -/
namespace Go.Proofs.YtmonkggoilhngaaGreatDoor
open Go.RowKit Bits Mem Sha
namespace Cad
end Cad
end Go.Proofs.YtmonkggoilhngaaGreatDoor
/- The walk of the schedule's Tick. -/
namespace Go.Proofs.YtmonkggoilhngaaGreatDoor
open Go.RowKit Bits Mem Sha
namespace Cad
def most : Int := 9223372036854775807
end Cad
end Go.Proofs.YtmonkggoilhngaaGreatDoor
/- The walk of the schedule's Tick. -/
namespace Go.Proofs.YtmonkggoilhngaaGreatDoor
open Go.RowKit Bits Mem Sha
namespace Mem
end Mem
namespace Cad
end Cad
end Go.Proofs.YtmonkggoilhngaaGreatDoor
/- The walks of the schedule's Add, on an empty schedule, and of Next. -/
namespace Go.Proofs.YtmonkggoilhngaaGreatDoor
open Go.RowKit Bits Mem Sha
namespace Cad
end Cad
end Go.Proofs.YtmonkggoilhngaaGreatDoor
/- The walk of the schedule's Next, on a schedule of one. -/
namespace Go.Proofs.YtmonkggoilhngaaGreatDoor
open Go.RowKit Bits Mem Sha
namespace Cad
end Cad
end Go.Proofs.YtmonkggoilhngaaGreatDoor
/- The walk of beats: the schedule at work, whatever the input. -/
namespace Go.Proofs.YtmonkggoilhngaaGreatDoor
open Go.RowKit Bits Mem Sha
namespace Cad
end Cad
end Go.Proofs.YtmonkggoilhngaaGreatDoor
/- The walk of CadenceCounts. -/
namespace Go.Proofs.YtmonkggoilhngaaGreatDoor
open Go.RowKit Bits Mem Sha
namespace Cad
end Cad
end Go.Proofs.YtmonkggoilhngaaGreatDoor
/- The order of ids is a total order. -/
namespace Go.Proofs.YtmonkggoilhngaaGreatDoor
open Go.RowKit Bits Mem Sha
namespace Cad
end Cad
end Go.Proofs.YtmonkggoilhngaaGreatDoor
/- The walks of the schedule's Add where it errs. -/
namespace Go.Proofs.YtmonkggoilhngaaGreatDoor
open Go.RowKit Bits Mem Sha
namespace Cad
end Cad
end Go.Proofs.YtmonkggoilhngaaGreatDoor
/- The walks of the schedule's Add and Remove, whole: a sorted schedule stays one. -/
namespace Go.Proofs.YtmonkggoilhngaaGreatDoor
open Go.RowKit Bits Mem Sha
namespace Cad
end Cad
end Go.Proofs.YtmonkggoilhngaaGreatDoor
/- Add and Remove as functions of the schedule; what they and a tick leave of one id. -/
namespace Go.Proofs.YtmonkggoilhngaaGreatDoor
open Go.RowKit Bits Mem Sha
namespace Cad
def place (L : List One) (id : List UInt8) : Nat := (L.takeWhile fun x => decide (cmpB x.id id < 0)).length
def has (L : List One) (id : List UInt8) : Bool := foundAt L id (place L id)
def only (m : List UInt8) (L : List One) : List One := L.filter fun x => decide (x.id = m)
end Cad
end Go.Proofs.YtmonkggoilhngaaGreatDoor
/- The document's schedule: where one is found, when one is due next; the lists that are held against each other. -/
namespace Go.Proofs.YtmonkggoilhngaaGreatDoor
open Go.RowKit Bits Mem Sha
namespace Cad
end Cad
end Go.Proofs.YtmonkggoilhngaaGreatDoor
/- The walks of the schedule's Next, Age and Ids, on any schedule; Tick at the last tick; none's answers. -/
namespace Go.Proofs.YtmonkggoilhngaaGreatDoor
open Go.RowKit Bits Mem Sha
namespace Cad
end Cad
end Go.Proofs.YtmonkggoilhngaaGreatDoor

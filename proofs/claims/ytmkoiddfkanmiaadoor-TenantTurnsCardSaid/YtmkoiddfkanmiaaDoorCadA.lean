/- The walks of the schedule's comparison, New and Now. -/
import Derived.Test.YtmkoiddfkanmiaaDoorConcW
import Derived.Test.YtmkoiddfkanmiaaDoorConQ
import Derived.Lib.Bytealg
import Derived.Laws.Externs
namespace Go.Proofs.YtmkoiddfkanmiaaDoor
open Go.RowKit Bits Mem
namespace Cad
/-- How two strings stand to each other. -/
def cmpB (a b : List UInt8) : Int := Lib.compareBytes a b
theorem cmp_run (a b : List UInt8) (w : World) : (callFunc 76 #[.string ⟨a.toArray⟩, .string ⟨b.toArray⟩]).run Tryd.prog w = .ok (.value (.int .i64 (cmpB a b))) w := by
  have h := run_callFunc_extern (P := Tryd.prog) Tryd.func76 (by kernel_rfl) (by kernel_rfl) (by kernel_rfl) (e := Extern.BytealgCompare.compare) (by kernel_rfl) #[.string ⟨a.toArray⟩, .string ⟨b.toArray⟩] w
  rw [Lib.run_compareString] at h
  exact h
set_option maxRecDepth 100000 in
set_option maxHeartbeats 1000000 in
theorem comparestr_any (a b : List UInt8) (w : World) :
    Calls Tryd.prog 67 #[.string ⟨a.toArray⟩, .string ⟨b.toArray⟩] w fun e w' => e = .returned (.int .i64 (cmpB a b)) ∧ w' = w := by
  go_enter Tryd.func67, Tryd.ntmps67
  go_wp2_with fail
  rw [cmp_run]
  rw [Oper.upon_value]
  go_wp2_with fail
  go_ret
  exact ⟨rfl, rfl⟩
set_option maxRecDepth 100000 in
set_option maxHeartbeats 1000000 in
theorem compare_any (a b : List UInt8) (w : World) :
    Calls Tryd.prog 59 #[.string ⟨a.toArray⟩, .string ⟨b.toArray⟩] w fun e w' => e = .returned (.int .i64 (cmpB a b)) ∧ w' = w := by
  go_enter Tryd.func59, Tryd.ntmps59
  go_wp2_with fail
  refine (comparestr_any a b w).mono ?_
  rintro e w2 ⟨rfl, hw⟩
  subst hw
  go_wp2_with fail
  go_ret
  exact ⟨rfl, rfl⟩
/-- One of a schedule. -/
structure One where
  id : List UInt8
  period : Int
  age : Int
def oneA (x : One) : Array Value := #[.string ⟨x.id.toArray⟩, .int .i64 x.period, .int .i64 x.age]
def ones (L : List One) : List Value := L.flatMap fun x => [.string ⟨x.id.toArray⟩, .int .i64 x.period, .int .i64 x.age]
end Cad
end Go.Proofs.YtmkoiddfkanmiaaDoor

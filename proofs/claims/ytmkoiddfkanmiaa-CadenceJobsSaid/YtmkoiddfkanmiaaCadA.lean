/- The walks of the schedule's comparison, New and Now. -/
import Derived.Test.YtmkoiddfkanmiaaConcW
import Derived.Test.YtmkoiddfkanmiaaConQ
import Derived.Lib.Bytealg
import Derived.Laws.Externs
namespace Go.Proofs.Ytmkoiddfkanmiaa
open Go.RowKit Bits Mem
namespace Cad
/-- How two strings stand to each other. -/
def cmpB (a b : List UInt8) : Int := Lib.compareBytes a b
theorem cmp_run (a b : List UInt8) (w : World) : (callFunc 33 #[.string ⟨a.toArray⟩, .string ⟨b.toArray⟩]).run Try.prog w = .ok (.value (.int .i64 (cmpB a b))) w := by
  have h := run_callFunc_extern (P := Try.prog) Try.func33 (by kernel_rfl) (by kernel_rfl) (by kernel_rfl) (e := Extern.BytealgCompare.compare) (by kernel_rfl) #[.string ⟨a.toArray⟩, .string ⟨b.toArray⟩] w
  rw [Lib.run_compareString] at h
  exact h
set_option maxRecDepth 100000 in
set_option maxHeartbeats 1000000 in
theorem comparestr_any (a b : List UInt8) (w : World) :
    Calls Try.prog 31 #[.string ⟨a.toArray⟩, .string ⟨b.toArray⟩] w fun e w' => e = .returned (.int .i64 (cmpB a b)) ∧ w' = w := by
  go_enter Try.func31, Try.ntmps31
  go_wp2_with fail
  rw [cmp_run]
  rw [Oper.upon_value]
  go_wp2_with fail
  go_ret
  exact ⟨rfl, rfl⟩
set_option maxRecDepth 100000 in
set_option maxHeartbeats 1000000 in
theorem compare_any (a b : List UInt8) (w : World) :
    Calls Try.prog 28 #[.string ⟨a.toArray⟩, .string ⟨b.toArray⟩] w fun e w' => e = .returned (.int .i64 (cmpB a b)) ∧ w' = w := by
  go_enter Try.func28, Try.ntmps28
  go_wp2_with fail
  refine (comparestr_any a b w).mono ?_
  rintro e w2 ⟨rfl, hw⟩
  subst hw
  go_wp2_with fail
  go_ret
  exact ⟨rfl, rfl⟩
/-- One of a schedule. -/
structure One where
  id : List UInt8
  period : Int
  age : Int
def oneA (x : One) : Array Value := #[.string ⟨x.id.toArray⟩, .int .i64 x.period, .int .i64 x.age]
def ones (L : List One) : List Value := L.flatMap fun x => [.string ⟨x.id.toArray⟩, .int .i64 x.period, .int .i64 x.age]
set_option maxRecDepth 100000 in
set_option maxHeartbeats 1000000 in
theorem cmp1_any (x : One) (b : List UInt8) (w : World) :
    Calls Try.prog 27 #[.agg (oneA x), .string ⟨b.toArray⟩] w fun e w' => e = .returned (.int .i64 (cmpB x.id b)) ∧ Below w.heap.size w w' := by
  obtain ⟨i, p, a⟩ := x
  unfold oneA
  go_enter Try.func27, Try.ntmps27
  go_wp2_with fail
  refine (compare_any i b _).mono ?_
  rintro e w2 ⟨rfl, hw⟩
  subst hw
  go_wp2_with fail
  go_ret
  exact ⟨rfl, (Below.refl _ _).alloc (Nat.le_refl _) _⟩
set_option maxRecDepth 100000 in
set_option maxHeartbeats 1000000 in
theorem newCad_any (n : Nat) (w : World) : Calls Try.prog 6 #[.int .i64 n] w fun e w' => e = .returned (.tuple #[.pointer (some ⟨w.heap.size, 0, none⟩), .int .i64 0]) ∧ w' = w.alloc (.cells #[.int .i64 n, .slice none 0 0] 53) := by
  go_enter Try.func6, Try.ntmps6
  go_wp2_with fail
  go_ret2
  exact ⟨rfl, rfl⟩
/-- A schedule in memory. -/
def SchedAt (w : World) (sb base : Nat) (q : Option Addr) (c : Nat) (now : Int) (L : List One) : Prop :=
  w.heap[sb]? = some (.cells #[.int .i64 now, .slice q L.length c] 53 (0, 0)) ∧ sb < base ∧ Ow w base 58 3 (.slice q L.length c) L.length (ones L)
set_option maxRecDepth 100000 in
set_option maxHeartbeats 1000000 in
theorem now_any (sb base : Nat) (q : Option Addr) (c : Nat) (now : Int) (L : List One) (w : World) (h : SchedAt w sb base q c now L) :
    Calls Try.prog 11 #[.pointer (some ⟨sb, 0, none⟩)] w fun e w' => e = .returned (.int .i64 now) ∧ w' = w := by
  have c0 : w.cell? ⟨sb, 0, none⟩ = some (.int .i64 now) := (cell_of_row _ _ _ _ _ _ h.1).trans rfl
  clear h
  go_enter Try.func11, Try.ntmps11
  go_wp2_with fail
  go_ret
  exact ⟨rfl, rfl⟩
end Cad
end Go.Proofs.Ytmkoiddfkanmiaa

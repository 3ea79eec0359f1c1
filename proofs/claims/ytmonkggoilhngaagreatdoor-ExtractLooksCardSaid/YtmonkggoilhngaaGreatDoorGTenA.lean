/- The walks of the tenants' comparison, New and find. -/
import Derived.Test.YtmonkggoilhngaaGreatDoorGCadA
import Derived.Test.YtmonkggoilhngaaGreatDoorGSlM
import Derived.Test.YtmonkggoilhngaaGreatDoorConc
namespace Go.Proofs.YtmonkggoilhngaaGreatDoor
open Go.RowKit Bits Mem Sha Cad
namespace Ten
structure Ten where
  id : List UInt8
  state : Int
  place : Int
  dir : Option Addr
def core (x : Ten) : One := ⟨x.id, x.state, x.place⟩
end Ten
end Go.Proofs.YtmonkggoilhngaaGreatDoor
/- The walks of a table's find, get, State, Get, Place. -/
namespace Go.Proofs.YtmonkggoilhngaaGreatDoor
open Go.RowKit Bits Mem Sha Cad
namespace Mem
theorem Ow.set {w : World} {B g n s c j : Nat} {e : TypeId} {xs : List Value} (h : Ow w B e s (.slice (some ⟨g, 0, none⟩) n c) n xs) (v : Value) (hj : j < n * s) : Ow (w.setCell ⟨g, j, none⟩ v) B e s (.slice (some ⟨g, 0, none⟩) n c) n (xs.set j v) := by
  have hw := (h.write j [v] (by simp; omega)).1
  have e1 : xs.take j ++ [v] ++ xs.drop (j + [v].length) = xs.set j v := by
    rw [List.set_eq_take_append_cons_drop, if_pos (by have := h.1; omega)]
    simp
  rw [e1] at hw
  exact hw
theorem Ow.free {w : World} {B g n s c j : Nat} {e : TypeId} {xs : List Value} (h : Ow w B e s (.slice (some ⟨g, 0, none⟩) n c) n xs) (hj : j < n * s) : w.frozen? ⟨g, j, none⟩ = false :=
  (h.cells j (Nat.lt_of_lt_of_le hj (Nat.mul_le_mul_right _ h.cap.1))).2
end Mem
namespace Ten
end Ten
end Go.Proofs.YtmonkggoilhngaaGreatDoor
/- The walks of a table's State, Get, Place, Hold, Free, Delete. -/
namespace Go.Proofs.YtmonkggoilhngaaGreatDoor
open Go.RowKit Bits Mem Sha Cad
namespace Ten
def theT (L : List Ten) (id : List UInt8) : Option Ten := if has (L.map core) id then L[place (L.map core) id]? else none
end Ten
end Go.Proofs.YtmonkggoilhngaaGreatDoor
/- The walks of a table's Hold, Free, Delete, Ids; none's answers. -/
namespace Go.Proofs.YtmonkggoilhngaaGreatDoor
open Go.RowKit Bits Mem Sha Cad
namespace Ten
end Ten
end Go.Proofs.YtmonkggoilhngaaGreatDoor
/- The walks of a table's Room and free. -/
namespace Go.Proofs.YtmonkggoilhngaaGreatDoor
open Go.RowKit Bits Mem Sha Cad
namespace Ten
def usedT (L : List Ten) (n : Nat) : List Bool := (List.range n).map fun (p : Nat) => L.any fun x => decide (¬ x.state = 3 ∧ x.place = (p : Int))
def firstFree (U : List Bool) : Int := match U.findIdx? (fun u => !u) with
  | some k => (k : Int)
  | none => -1
end Ten
end Go.Proofs.YtmonkggoilhngaaGreatDoor
/- The walk of a table's put. -/
namespace Go.Proofs.YtmonkggoilhngaaGreatDoor
open Go.RowKit Bits Mem Sha Cad
namespace Rq
end Rq
namespace Mem
theorem Rd.at {w x : World} {s n : Nat} {v : Value} {xs : List Value} (h : Rd w s v n xs) (hs : w.heap.size ≤ x.heap.size) (hx : ∀ k, v.ownBlock = some k → x.heap[k]? = w.heap[k]?) : Rd x s v n xs := by
  refine ⟨h.1, ?_⟩
  rcases h.2 with hn | ⟨b, off, cap, rfl, hlt, hnc, hcm, hc⟩
  · exact .inl hn
  · refine .inr ⟨b, off, cap, rfl, Nat.lt_of_lt_of_le hlt hs, hnc, hcm, fun j u hu => ?_⟩
    rw [← hc j u hu]
    unfold World.cell?
    rw [hx b rfl]
theorem Rd.lt {w : World} {s n : Nat} {v : Value} {xs : List Value} (h : Rd w s v n xs) : ∀ k, v.ownBlock = some k → k < w.heap.size := by
  intro k hk
  rcases h.2 with ⟨rfl, _⟩ | ⟨b, off, cap, rfl, hlt, _⟩
  · cases hk
  · cases hk; exact hlt
theorem Ow.atM {w x : World} {B s n : Nat} {e : TypeId} {v : Value} {xs : List Value} (h : Ow w B e s v n xs) (hx : ∀ k, v.ownBlock = some k → x.heap[k]? = w.heap[k]?) : Ow x B e s v n xs := by
  refine ⟨h.1, ?_⟩
  rcases h.2 with hn | ⟨g, cap, cur, fz, rfl, hb, hg, rest⟩
  · exact .inl hn
  · exact .inr ⟨g, cap, cur, fz, rfl, hb, (hx g rfl).trans hg, rest⟩
end Mem
namespace Ten
def putT (L : List Ten) (id : List UInt8) (d : Option Addr) (n : Nat) : (Int × Int) × List Ten := match theT L id with
  | some x => if x.state = 3 then ((0, 9), L) else ((0, 11), L)
  | none => if firstFree (usedT L n) < 0 then ((0, 7), L) else ((firstFree (usedT L n), 0), L.take (place (L.map core) id) ++ ⟨id, 1, firstFree (usedT L n), d⟩ :: L.drop (place (L.map core) id))
end Ten
end Go.Proofs.YtmonkggoilhngaaGreatDoor

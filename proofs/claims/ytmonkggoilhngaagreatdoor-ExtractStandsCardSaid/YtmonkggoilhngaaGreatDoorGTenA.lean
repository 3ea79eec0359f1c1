/- The walks of the tenants' comparison, New and find. -/
import Derived.Test.YtmonkggoilhngaaGreatDoorGCadJ
import Derived.Test.YtmonkggoilhngaaGreatDoorGSlM
namespace Go.Proofs.YtmonkggoilhngaaGreatDoor
open Go.RowKit Bits Mem Sha Cad
namespace Ten
/-- One of a table of tenants. -/
structure Ten where
  id : List UInt8
  state : Int
  place : Int
  dir : Option Addr
/-- What the document knows of one: the id, the state (as a period), the place (as an age). -/
def core (x : Ten) : One := ⟨x.id, x.state, x.place⟩
def tenA (x : Ten) : Array Value := #[.string ⟨x.id.toArray⟩, .int .i64 x.state, .int .i64 x.place, .pointer x.dir]
def tens (L : List Ten) : List Value := L.flatMap fun x => [.string ⟨x.id.toArray⟩, .int .i64 x.state, .int .i64 x.place, .pointer x.dir]
theorem tens_length (L : List Ten) : (tens L).length = L.length * 4 := by
  unfold tens
  induction L with
  | nil => rfl
  | cons x L ih => simp [List.flatMap_cons, ih]; omega
theorem tens_get : ∀ (L : List Ten) (k : Nat) (x : Ten), L[k]? = some x → ∀ j, j < 4 → (tens L)[k * 4 + j]? = (tenA x).toList[j]?
  | [], _, _, h, _, _ => by simp at h
  | y :: L, 0, x, h, j, hj => by
    cases h
    unfold tens tenA
    rw [List.flatMap_cons, List.getElem?_append_left (by simp; omega)]
    simp
  | y :: L, k + 1, x, h, j, hj => by
    have := tens_get L k x (by simpa using h) j hj
    rw [← this]
    unfold tens
    rw [List.flatMap_cons, List.getElem?_append_right (by simp; omega)]
    congr 1
    simp
    omega
end Ten
end Go.Proofs.YtmonkggoilhngaaGreatDoor
/- The walks of a table's find, get, State, Get, Place. -/
namespace Go.Proofs.YtmonkggoilhngaaGreatDoor
open Go.RowKit Bits Mem Sha Cad
namespace Mem
theorem Ow.set {w : World} {B g n s c j : Nat} {e : TypeId} {xs : List Value} (h : Ow w B e s (.slice (some ⟨g, 0, none⟩) n c) n xs) (v : Value) (hj : j < n * s) : Ow (w.setCell ⟨g, j, none⟩ v) B e s (.slice (some ⟨g, 0, none⟩) n c) n (xs.set j v) := by
  have hw := (h.write j [v] (by simp; omega)).1
  have e1 : xs.take j ++ [v] ++ xs.drop (j + [v].length) = xs.set j v := by
    rw [List.set_eq_take_append_cons_drop, if_pos (by have := h.1; omega)]
    simp
  rw [e1] at hw
  exact hw
theorem Ow.free {w : World} {B g n s c j : Nat} {e : TypeId} {xs : List Value} (h : Ow w B e s (.slice (some ⟨g, 0, none⟩) n c) n xs) (hj : j < n * s) : w.frozen? ⟨g, j, none⟩ = false :=
  (h.cells j (Nat.lt_of_lt_of_le hj (Nat.mul_le_mul_right _ h.cap.1))).2
end Mem
namespace Ten
theorem tens_append (A B : List Ten) : tens (A ++ B) = tens A ++ tens B := by simp [tens]
theorem tens_cons (x : Ten) (B : List Ten) : tens (x :: B) = (tenA x).toList ++ tens B := by simp [tens, tenA]
theorem tens_take : ∀ (L : List Ten) (n : Nat), (tens L).take (n * 4) = tens (L.take n)
  | [], n => by simp [tens]
  | x :: L, 0 => by simp [tens]
  | x :: L, n + 1 => by
    rw [List.take_succ_cons, tens_cons, tens_cons, ← tens_take L n, List.take_append, List.take_of_length_le (by simp [tenA]; omega)]
    congr 2
    simp [tenA]
    omega
theorem tens_drop : ∀ (L : List Ten) (n : Nat), (tens L).drop (n * 4) = tens (L.drop n)
  | [], n => by simp [tens]
  | x :: L, 0 => by simp
  | x :: L, n + 1 => by
    rw [List.drop_succ_cons, tens_cons, ← tens_drop L n, List.drop_append, List.drop_eq_nil_of_le (by simp [tenA]; omega), List.nil_append]
    congr 1
    simp [tenA]
    omega
theorem tens_one (L : List Ten) : ∀ u ∈ tens L, u.oneCell' = true := by
  intro u hu
  simp only [tens, List.mem_flatMap] at hu
  obtain ⟨x, _, hx⟩ := hu
  simp at hx
  rcases hx with rfl | rfl | rfl | rfl <;> rfl
/-- One of them is turned. -/
theorem tens_set (L : List Ten) (k : Nat) (x y : Ten) (hx : L[k]? = some x) (j : Nat) (hj : j < 4) (v : Value) (h : (tenA y).toList = (tenA x).toList.set j v) : (tens L).set (k * 4 + j) v = tens (L.set k y) := by
  have hk := (List.getElem?_eq_some_iff.1 hx).1
  apply List.ext_getElem?
  intro i
  have hl := tens_length L
  have hl2 := tens_length (L.set k y)
  rw [List.length_set] at hl2
  rw [List.getElem?_set]
  by_cases hi : i < L.length * 4
  · obtain ⟨a, r, hr, rfl⟩ : ∃ a r, r < 4 ∧ i = a * 4 + r := ⟨i / 4, i % 4, Nat.mod_lt _ (by decide), by omega⟩
    have ha : a < L.length := by omega
    by_cases hak : a = k
    · subst hak
      rw [tens_get (L.set a y) a y (by rw [List.getElem?_set_self hk]) r hr, h, List.getElem?_set]
      by_cases hrj : r = j
      · subst hrj
        rw [if_pos rfl, if_pos (by omega), if_pos rfl, if_pos (by show r < 4; omega)]
      · rw [if_neg (by omega), if_neg (fun e => hrj e.symm), tens_get L a x hx r hr]
    · obtain ⟨z, hz⟩ : ∃ z, L[a]? = some z := ⟨_, List.getElem?_eq_getElem ha⟩
      rw [if_neg (by omega), tens_get L a z hz r hr, tens_get _ a z (by rw [List.getElem?_set_ne (fun e => hak e.symm)]; exact hz) r hr]
  · rw [if_neg (by omega), List.getElem?_eq_none (by omega), List.getElem?_eq_none (by omega)]
/-- What stands in the way of one who is live or held. -/
def missD (C : List One) (id : List UInt8) : Int := match (if has C id then C[place C id]? else none) with
  | some x => if x.period = 3 then 9 else 0
  | none => 10
theorem missD_none {C : List One} {id : List UInt8} (h : has C id = false) : missD C id = 10 := by unfold missD; rw [if_neg (by rw [h]; decide)]
theorem missD_some {C : List One} {id : List UInt8} {x : One} (h : has C id = true) (hx : C[place C id]? = some x) : missD C id = if x.period = 3 then 9 else 0 := by unfold missD; rw [if_pos h, hx]
theorem has_ten {L : List Ten} {id : List UInt8} (h : has (L.map core) id = true) : ∃ x, L[place (L.map core) id]? = some x ∧ x.id = id := by
  obtain ⟨y, hy, he⟩ := has_some h
  rw [List.getElem?_map] at hy
  obtain ⟨x, hx, rfl⟩ := Option.map_eq_some_iff.1 hy
  exact ⟨x, hx, he⟩
theorem missD_ten {L : List Ten} {id : List UInt8} {x : Ten} (h : has (L.map core) id = true) (hx : L[place (L.map core) id]? = some x) : missD (L.map core) id = if x.state = 3 then 9 else 0 :=
  missD_some h (by rw [List.getElem?_map, hx]; rfl)
end Ten
end Go.Proofs.YtmonkggoilhngaaGreatDoor
/- The walks of a table's State, Get, Place, Hold, Free, Delete. -/
namespace Go.Proofs.YtmonkggoilhngaaGreatDoor
open Go.RowKit Bits Mem Sha Cad
namespace Ten
/-- The one an id speaks of. -/
def theT (L : List Ten) (id : List UInt8) : Option Ten := if has (L.map core) id then L[place (L.map core) id]? else none
def stateT (L : List Ten) (id : List UInt8) : Int := match theT L id with
  | some x => x.state
  | none => 0
/-- The error of who asks for one that is live or held. -/
def missT (L : List Ten) (id : List UInt8) : Int := match theT L id with
  | some x => if x.state = 3 then 9 else 0
  | none => 10
theorem missT_eq (L : List Ten) (id : List UInt8) : missD (L.map core) id = missT L id := by
  unfold missD missT theT
  cases has (L.map core) id
  · rfl
  · simp only [if_true, List.getElem?_map]
    cases L[place (L.map core) id]? <;> rfl
def getT (L : List Ten) (id : List UInt8) (held : Bool) : Option Addr × Int := match theT L id with
  | some x => if x.state = 3 then (none, 9) else if x.state = 2 ∧ held = false then (none, 12) else (x.dir, 0)
  | none => (none, 10)
def placeT (L : List Ten) (id : List UInt8) : Int × Int := match theT L id with
  | some x => if x.state = 3 then (0, 9) else (x.place, 0)
  | none => (0, 10)
def turnT (L : List Ten) (id : List UInt8) (st : Int) : Int × List Ten := match theT L id with
  | some x => if x.state = 3 then (9, L) else if x.state = st then (12, L) else (0, L.set (place (L.map core) id) { x with state := st })
  | none => (10, L)
def delT (L : List Ten) (id : List UInt8) : (Int × Int) × List Ten := match theT L id with
  | some x => if x.state = 3 then ((0, 9), L) else ((x.place, 0), L.set (place (L.map core) id) { x with state := 3, dir := none })
  | none => ((0, 10), L)
theorem theT_some {L : List Ten} {id : List UInt8} {x : Ten} (h : has (L.map core) id = true) (hx : L[place (L.map core) id]? = some x) : theT L id = some x := by unfold theT; rw [if_pos h, hx]
theorem theT_none {L : List Ten} {id : List UInt8} (h : has (L.map core) id = false) : theT L id = none := by unfold theT; rw [if_neg (by rw [h]; decide)]
/-- What get tells, by the one it speaks of. -/
theorem get_cases {L : List Ten} {id : List UInt8} (h : ¬ missD (L.map core) id = 0) : (theT L id = none ∧ missD (L.map core) id = 10) ∨ (∃ x, theT L id = some x ∧ x.state = 3 ∧ missD (L.map core) id = 9) := by
  rw [missT_eq] at h ⊢
  unfold missT at h ⊢
  cases ht : theT L id with
  | none => exact .inl ⟨rfl, rfl⟩
  | some x =>
    rw [ht] at h
    by_cases h3 : x.state = 3
    · exact .inr ⟨x, rfl, h3, if_pos h3⟩
    · exact absurd (if_neg h3) h
end Ten
end Go.Proofs.YtmonkggoilhngaaGreatDoor
/- The walks of a table's Hold, Free, Delete, Ids; none's answers. -/
namespace Go.Proofs.YtmonkggoilhngaaGreatDoor
open Go.RowKit Bits Mem Sha Cad
namespace Ten
/-- The ids of a state. -/
def idsT (L : List Ten) (st : Int) : List (List UInt8) := (L.filter fun x => x.state == st).map (·.id)
theorem idsT_succ {L : List Ten} {k : Nat} {x : Ten} (hx : L[k]? = some x) (st : Int) : idsT (L.take (k + 1)) st = idsT (L.take k) st ++ (if x.state == st then [x.id] else []) := by
  unfold idsT
  rw [List.take_add_one, hx, List.filter_append, List.map_append]
  congr 1
  simp only [Option.toList_some, List.filter_cons, List.filter_nil]
  split <;> rfl
theorem idsT_len (L : List Ten) (st : Int) : (idsT L st).length ≤ L.length := by
  unfold idsT
  rw [List.length_map]
  exact List.length_filter_le _ _
theorem infoStrT : (Tryz.prog.info? 9).map (fun i => (i.zero, i.size, i.bytes)) = some (some (.string ⟨#[]⟩), 1, 16) := by kernel_rfl
end Ten
end Go.Proofs.YtmonkggoilhngaaGreatDoor
/- The walks of a table's Room and free. -/
namespace Go.Proofs.YtmonkggoilhngaaGreatDoor
open Go.RowKit Bits Mem Sha Cad
namespace Ten
/-- Which places are taken. -/
def usedT (L : List Ten) (n : Nat) : List Bool := (List.range n).map fun (p : Nat) => L.any fun x => decide (¬ x.state = 3 ∧ x.place = (p : Int))
/-- The first that is not. -/
def firstFree (U : List Bool) : Int := match U.findIdx? (fun u => !u) with
  | some k => (k : Int)
  | none => -1
theorem firstFree_some {U : List Bool} {k : Nat} (h : U[k]? = some false) (hk : ∀ j, j < k → U[j]? = some true) : firstFree U = k := by
  unfold firstFree
  have : U.findIdx? (fun u => !u) = some k := by
    rw [List.findIdx?_eq_some_iff_getElem]
    obtain ⟨hlk, hge⟩ := List.getElem?_eq_some_iff.1 h
    refine ⟨hlk, by rw [hge]; rfl, fun j hj => ?_⟩
    obtain ⟨hlj, hgj⟩ := List.getElem?_eq_some_iff.1 (hk j hj)
    rw [hgj]
    decide
  rw [this]
theorem firstFree_none {U : List Bool} (hk : ∀ j, j < U.length → U[j]? = some true) : firstFree U = -1 := by
  unfold firstFree
  have : U.findIdx? (fun u => !u) = none := by
    rw [List.findIdx?_eq_none_iff]
    intro x hx
    obtain ⟨j, hj⟩ := List.mem_iff_getElem?.1 hx
    have hjl := (List.getElem?_eq_some_iff.1 hj).1
    rw [hk j hjl] at hj
    cases hj
    rfl
  rw [this]
theorem usedT_at (L : List Ten) (n p : Nat) (hp : p < n) : (usedT L n)[p]? = some (L.any fun x => decide (¬ x.state = 3 ∧ x.place = (p : Int))) := by
  unfold usedT
  rw [List.getElem?_map, List.getElem?_range hp]
  rfl
theorem usedT_length (L : List Ten) (n : Nat) : (usedT L n).length = n := by simp [usedT]
theorem usedT_succ {L : List Ten} {k : Nat} {x : Ten} (hx : L[k]? = some x) (n : Nat) : (x.state = 3 → usedT (L.take (k + 1)) n = usedT (L.take k) n) ∧ (¬ x.state = 3 → ∀ p : Nat, p < n → x.place = (p : Int) → usedT (L.take (k + 1)) n = (usedT (L.take k) n).set p true) := by
  have ht : L.take (k + 1) = L.take k ++ [x] := by rw [List.take_add_one, hx]; rfl
  refine ⟨fun h3 => ?_, fun h3 p hp hxp => ?_⟩
  · unfold usedT
    rw [ht]
    apply List.map_congr_left
    intro a _
    rw [List.any_append]
    simp [h3]
  · apply List.ext_getElem?
    intro i
    rw [List.getElem?_set]
    by_cases hi : i < n
    · rw [usedT_at _ n i hi, ht, List.any_append]
      by_cases hpi : p = i
      · subst hpi
        rw [if_pos rfl, if_pos (by rw [usedT_length]; exact hp)]
        simp [h3, hxp]
      · rw [if_neg hpi, usedT_at _ n i hi]
        congr 1
        have : ¬ x.place = (i : Int) := by omega
        simp [this]
    · rw [List.getElem?_eq_none (by rw [usedT_length]; omega), if_neg (by omega), List.getElem?_eq_none (by rw [usedT_length]; omega)]
def boolsC (U : List Bool) : List Value := U.map .bool
theorem infoBool : (Tryz.prog.info? 4).map (fun i => (i.zero, i.size, i.bytes)) = some (some (.bool false), 1, 1) := by kernel_rfl
end Ten
end Go.Proofs.YtmonkggoilhngaaGreatDoor

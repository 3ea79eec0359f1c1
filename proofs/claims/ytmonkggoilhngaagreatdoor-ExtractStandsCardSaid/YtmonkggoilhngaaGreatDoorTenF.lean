/- The walk of a table's put. -/
import Derived.Test.YtmonkggoilhngaaGreatDoorGTenA
import Derived.Test.YtmonkggoilhngaaGreatDoorSlT
import Derived.Test.YtmonkggoilhngaaGreatDoorConQ
namespace Go.Proofs.YtmonkggoilhngaaGreatDoor
open Go.RowKit Bits Mem Sha Cad
namespace Rq
theorem own_set {w : World} {q : Nat → Prop} {i : Nat} {spec : List Sp} (hq : ∀ k, q k → k < w.heap.size) (h : ∀ s ∈ spec, s.own = free ∨ (s.ix = i ∧ s.own = q)) : Own (fun k => k < w.heap.size ∧ ¬ q k) w spec :=
  ⟨fun k hk => hk.1, fun j s hs k hk => by
    rcases h s (look_mem hs).1 with h | ⟨_, h⟩
    · rw [h] at hk; exact hk.elim
    · rw [h] at hk; exact ⟨fun hp => hp.2 hk, hq k hk⟩, fun j m s t hs ht hne k hk hk' => by
    obtain ⟨hs1, hs2⟩ := look_mem hs
    obtain ⟨ht1, ht2⟩ := look_mem ht
    rcases h s hs1 with h1 | ⟨h1, _⟩
    · rw [h1] at hk; exact hk
    · rcases h t ht1 with h2 | ⟨h2, _⟩
      · rw [h2] at hk'; exact hk'
      · exact hne (by rw [← hs2, ← ht2, h1, h2])⟩
theorem r_conv {P : Program} {ops : Array Oper} {Q : Exit → Act → World → Prop} {Pr : Nat → Prop} {w : World} {spec : List Sp} {fin : List Nat} {tail : List Oper} {p : Nat → Rc.Par} {j : Nat} {o : Oper} {r : List Oper} {a : Act} (hl : look spec j = none) (hw : Region.wanted o (yielded ops a.tmps) = true) (t ts : TypeId) (y : Operand) (ho : o.op = .convert t ts y) (v u : Value) (hx : a.eval y = v)
    (hr : ∀ x, Same Pr w x → (convert t ts v).run P x = .ok u x)
    (h : ∀ K : Act → Prop, (∀ a, wpSeq P ops Q Pr w spec fin tail p (j + 1) r a → K a) → K (a.put o.dst u)) : wpSeq P ops Q Pr w spec fin tail p j (o :: r) a :=
  r_run u hl hw (fun x hs => by
    have := hr x hs
    simp [execOp, ho, hx, this]) h
end Rq
namespace Mem
theorem Rd.at {w x : World} {s n : Nat} {v : Value} {xs : List Value} (h : Rd w s v n xs) (hs : w.heap.size ≤ x.heap.size) (hx : ∀ k, v.ownBlock = some k → x.heap[k]? = w.heap[k]?) : Rd x s v n xs := by
  refine ⟨h.1, ?_⟩
  rcases h.2 with hn | ⟨b, off, cap, rfl, hlt, hnc, hcm, hc⟩
  · exact .inl hn
  · refine .inr ⟨b, off, cap, rfl, Nat.lt_of_lt_of_le hlt hs, hnc, hcm, fun j u hu => ?_⟩
    rw [← hc j u hu]
    unfold World.cell?
    rw [hx b rfl]
theorem Rd.lt {w : World} {s n : Nat} {v : Value} {xs : List Value} (h : Rd w s v n xs) : ∀ k, v.ownBlock = some k → k < w.heap.size := by
  intro k hk
  rcases h.2 with ⟨rfl, _⟩ | ⟨b, off, cap, rfl, hlt, _⟩
  · cases hk
  · cases hk; exact hlt
theorem Ow.atM {w x : World} {B s n : Nat} {e : TypeId} {v : Value} {xs : List Value} (h : Ow w B e s v n xs) (hx : ∀ k, v.ownBlock = some k → x.heap[k]? = w.heap[k]?) : Ow x B e s v n xs := by
  refine ⟨h.1, ?_⟩
  rcases h.2 with hn | ⟨g, cap, cur, fz, rfl, hb, hg, rest⟩
  · exact .inl hn
  · exact .inr ⟨g, cap, cur, fz, rfl, hb, (hx g rfl).trans hg, rest⟩
end Mem
namespace Ten
def putT (L : List Ten) (id : List UInt8) (d : Option Addr) (n : Nat) : (Int × Int) × List Ten := match theT L id with
  | some x => if x.state = 3 then ((0, 9), L) else ((0, 11), L)
  | none => if firstFree (usedT L n) < 0 then ((0, 7), L) else ((firstFree (usedT L n), 0), L.take (place (L.map core) id) ++ ⟨id, 1, firstFree (usedT L n), d⟩ :: L.drop (place (L.map core) id))
theorem firstFree_lt (U : List Bool) : firstFree U < U.length ∧ -1 ≤ firstFree U := by
  unfold firstFree
  cases h : U.findIdx? (fun u => !u) with
  | none => exact ⟨by show (-1 : Int) < _; omega, by show (-1 : Int) ≤ -1; omega⟩
  | some k =>
    rw [List.findIdx?_eq_some_iff_getElem] at h
    have := h.1
    exact ⟨by show (k : Int) < _; omega, by show (-1 : Int) ≤ (k : Int); omega⟩
/-- Where a slice's block may lie behind a call. -/
def GrewT (w : World) (q : Option Addr) (c n : Nat) (q' : Option Addr) (n' c' : Nat) : Prop := ∀ k, (Value.slice q' n' c').ownBlock = some k → (Value.slice q n c).ownBlock = some k ∨ w.heap.size ≤ k
end Ten
end Go.Proofs.YtmonkggoilhngaaGreatDoor

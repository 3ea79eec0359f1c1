/- All blocks but some are as they were. Plain; no condition. -/
import Derived.Test.YtmonkggoilhngaaGreatDoorOw
import Derived.Below
namespace Go.Proofs.YtmonkggoilhngaaGreatDoor
open Go.RowKit Mem
namespace Mem
/-- All blocks but some are as they were. -/
structure Kp (S : Nat → Prop) (w w' : World) : Prop where
  os : w'.os = w.os
  tape : w'.tape = w.tape
  output : w'.output = w.output
  size : w.heap.size ≤ w'.heap.size
  block : ∀ k, k < w.heap.size → ¬ S k → w'.heap[k]? = w.heap[k]?
theorem Kp.of_below {S : Nat → Prop} {w w' : World} (h : Below w.heap.size w w') : Kp S w w' := ⟨h.os, h.tape, h.output, h.size, fun k hk _ => h.block k hk⟩
theorem Kp.trans {S T : Nat → Prop} {w w' w'' : World} (h : Kp S w w') (h' : Kp T w' w'') (hT : ∀ k, k < w.heap.size → T k → S k) : Kp S w w'' :=
  ⟨h'.os.trans h.os, h'.tape.trans h.tape, h'.output.trans h.output, Nat.le_trans h.size h'.size, fun k hk hn => (h'.block k (Nat.lt_of_lt_of_le hk h.size) (fun ht => hn (hT k hk ht))).trans (h.block k hk hn)⟩
theorem Kp.below {S : Nat → Prop} {w w' : World} {B : Nat} (h : Kp S w w') (hB : B ≤ w.heap.size) (hS : ∀ k, S k → B ≤ k) : Below B w w' :=
  ⟨h.os, h.tape, h.output, h.size, fun k hk => h.block k (Nat.lt_of_lt_of_le hk hB) (fun hs => by have := hS k hs; omega)⟩
theorem Ow.kp {S : Nat → Prop} {w w' : World} {base n : Nat} {e : TypeId} {size : Nat} {v : Value} {xs : List Value} (h : Ow w base e size v n xs) (hk : Kp S w w') (hS : ∀ k, v.ownBlock = some k → ¬ S k) : Ow w' base e size v n xs := by
  refine ⟨h.1, ?_⟩
  rcases h.2 with hn | ⟨g, cap, cur, fz, rfl, hb, hg, rest⟩
  · exact .inl hn
  · exact .inr ⟨g, cap, cur, fz, rfl, hb, (hk.block g (ltB hg) (hS g rfl)).trans hg, rest⟩
where ltB {w : World} {g : Nat} {o : Obj} (h : w.heap[g]? = some o) : g < w.heap.size := (Array.getElem?_eq_some_iff.1 h).1
end Mem
end Go.Proofs.YtmonkggoilhngaaGreatDoor

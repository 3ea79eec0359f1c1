/- The walk of the schedule's Tick. -/
import Derived.Test.YtmkoiddfkanmiaaDoorCadD
namespace Go.Proofs.YtmkoiddfkanmiaaDoor
open Go.RowKit Bits Mem Sha
namespace Mem
/-- All blocks but some are as they were. -/
structure Kp (S : Nat → Prop) (w w' : World) : Prop where
  os : w'.os = w.os
  tape : w'.tape = w.tape
  output : w'.output = w.output
  size : w.heap.size ≤ w'.heap.size
  block : ∀ k, k < w.heap.size → ¬ S k → w'.heap[k]? = w.heap[k]?
theorem Kp.of_below {S : Nat → Prop} {w w' : World} (h : Below w.heap.size w w') : Kp S w w' := ⟨h.os, h.tape, h.output, h.size, fun k hk _ => h.block k hk⟩
theorem Kp.trans {S T : Nat → Prop} {w w' w'' : World} (h : Kp S w w') (h' : Kp T w' w'') (hT : ∀ k, k < w.heap.size → T k → S k) : Kp S w w'' :=
  ⟨h'.os.trans h.os, h'.tape.trans h.tape, h'.output.trans h.output, Nat.le_trans h.size h'.size, fun k hk hn => (h'.block k (Nat.lt_of_lt_of_le hk h.size) (fun ht => hn (hT k hk ht))).trans (h.block k hk hn)⟩
theorem Kp.below {S : Nat → Prop} {w w' : World} {B : Nat} (h : Kp S w w') (hB : B ≤ w.heap.size) (hS : ∀ k, S k → B ≤ k) : Below B w w' :=
  ⟨h.os, h.tape, h.output, h.size, fun k hk => h.block k (Nat.lt_of_lt_of_le hk hB) (fun hs => by have := hS k hs; omega)⟩
theorem Ow.kp {S : Nat → Prop} {w w' : World} {base n : Nat} {e : TypeId} {size : Nat} {v : Value} {xs : List Value} (h : Ow w base e size v n xs) (hk : Kp S w w') (hS : ∀ k, v.ownBlock = some k → ¬ S k) : Ow w' base e size v n xs := by
  refine ⟨h.1, ?_⟩
  rcases h.2 with hn | ⟨g, cap, cur, fz, rfl, hb, hg, rest⟩
  · exact .inl hn
  · exact .inr ⟨g, cap, cur, fz, rfl, hb, (hk.block g (ltB hg) (hS g rfl)).trans hg, rest⟩
where ltB {w : World} {g : Nat} {o : Obj} (h : w.heap[g]? = some o) : g < w.heap.size := (Array.getElem?_eq_some_iff.1 h).1
theorem Kp.of_grown {w w' : World} {row : Option Nat} (h : w.grownBy w' row) : Kp (fun k => row = some k) w w' :=
  ⟨h.os, h.tape, h.output, h.size, fun k hk hn => h.block k hk (fun e => hn e.symm)⟩
theorem Kp.weak {S T : Nat → Prop} {w w' : World} (h : Kp S w w') (hT : ∀ k, S k → T k) : Kp T w w' := ⟨h.os, h.tape, h.output, h.size, fun k hk hn => h.block k hk (fun hs => hn (hT k hs))⟩
end Mem
namespace Cad
def strsC (T : List (List UInt8)) : List Value := T.map fun t => .string ⟨t.toArray⟩
theorem strsC_append (T U : List (List UInt8)) : strsC (T ++ U) = strsC T ++ strsC U := by simp [strsC]
theorem strsC_one (T : List (List UInt8)) : ∀ u ∈ strsC T, u.oneCell' = true := by
  intro u hu; simp [strsC] at hu; obtain ⟨x, _, rfl⟩ := hu; rfl
theorem infoStrC : (Tryd.prog.info? 9).map (fun i => (i.zero, i.size, i.bytes)) = some (some (.string ⟨#[]⟩), 1, 16) := by kernel_rfl
theorem parts3C {t : TypeId} {z : Value} {s b : Nat} (h : (Tryd.prog.info? t).map (fun i => (i.zero, i.size, i.bytes)) = some (some z, s, b)) : ∃ i0, Tryd.prog.info? t = some i0 ∧ i0.zero = some z ∧ i0.size = s ∧ i0.bytes = b := by
  obtain ⟨i0, h1, h2⟩ := Option.map_eq_some_iff.1 h
  have h2 := Prod.mk.inj h2
  have h3 := Prod.mk.inj h2.2
  exact ⟨i0, h1, h2.1, h3.1, h3.2⟩
theorem dues_len (L : List One) : (dues L).length ≤ L.length := by
  unfold dues
  rw [List.length_map]
  exact List.length_filter_le _ _
end Cad
end Go.Proofs.YtmkoiddfkanmiaaDoor

/- The walks of a table's Create and Import, and of custumallaw22.tables. -/
import Derived.Test.YtmonkggoilhngaaGreatDoorGL32P
namespace Go.Proofs.YtmonkggoilhngaaGreatDoor
open Go.RowKit Bits Mem Sha Cad
namespace Mem
theorem freeze_rowT (w : World) (g : Nat) (C : Array Value) (e : TypeId) (h : w.heap[g]? = some (.cells C e (0, 0))) : (w.freeze { block := g, off := C.size } 1).heap[g]? = some (.cells C e (C.size, C.size + 1)) := by
  unfold World.freeze
  simp only [Nat.one_ne_zero, if_false, Array.getElem?_modify, if_true, h]
  simp
theorem freeze_grownT (w : World) (g k : Nat) : w.grownBy (w.freeze { block := g, off := k } 1) (some g) := by
  refine ⟨rfl, rfl, rfl, by unfold World.freeze; simp, fun j hj hne => ?_⟩
  unfold World.freeze
  simp only [Nat.one_ne_zero, if_false, Array.getElem?_modify]
  rw [if_neg (fun e => hne (by rw [e]))]
theorem conv_markT {P : Program} {w : World} {ops : Array Oper} {rest : List Oper} {o : Oper} {a : Act} {Q : Exit → Act → World → Prop} (hgd : o.guard = none) (t : TypeId) (y : Operand) (ho : o.op = .convert t t y)
    (e : TypeId) (ht : P.underlying t = some (.slice e)) (he : P.underlying e = some (.int .u8)) (g n c : Nat) (hx : a.eval y = .slice (some ⟨g, 0, none⟩) n c) (C : Array Value) (hrow : w.heap[g]? = some (.cells C e (0, 0)))
    (h : ∀ w', w'.heap[g]? = some (.cells C e (C.size, C.size + 1)) → w.grownBy w' (some g) → wpList P ops Q rest (a.put o.dst (.slice (some ⟨g, 0, none⟩) n c)) w') : wpList P ops Q (o :: rest) a w := by
  refine wpList_plain hgd fun K hK => ?_
  have hsh : w.shape? g = some (e, C.size) := by unfold World.shape?; rw [hrow]
  have hrun : (convert t t (.slice (some ⟨g, 0, none⟩) n c)).run P w = .ok (.slice (some ⟨g, 0, none⟩) n c) (w.freeze { block := g, off := C.size } 1) := by
    simp [convert, run_underlying ht, run_underlying he, markStringish, hsh]
  unfold Oper.wp
  simp [execOp, ho, hx, hrun, Result.andThen]
  exact hK _ _ (h _ (freeze_rowT w g C e hrow) (freeze_grownT w g C.size))
end Mem
namespace Rq
end Rq
namespace Ten
end Ten
end Go.Proofs.YtmonkggoilhngaaGreatDoor
/- The walks of custumallaw22.tables and TenantNil. -/
namespace Go.Proofs.YtmonkggoilhngaaGreatDoor
open Go.RowKit Bits Mem Sha Cad
namespace Mem
theorem l_buildT {P : Program} {ops : Array Oper} {Q : Exit → Act → World → Prop} {a : Act} {w : World} {o : Oper} {rest : List Oper} (hg : o.guard = none) (t : TypeId) (parts : Array (Nat × Operand)) (ho : o.op = .build t parts) (cs : Array Value)
    (hb : P.built t (parts.map fun (i, x) => (i, a.eval x)).toList = some cs)
    (h : wpList P ops Q rest (a.put o.dst (.agg cs)) w) : wpList P ops Q (o :: rest) a w :=
  wpList_plain hg fun K hK => by
    unfold Oper.wp execOp
    simp only [ho, Sem.run_bind, run_build w t _ cs hb, Result.andThen_ok, Sem.run_pure]
    exact hK _ _ h
theorem Rd_of_rowT {w : World} {g n : Nat} {l : List UInt8} {t : TypeId} {f : Nat × Nat} (h : w.heap[g]? = some (.cells (bysA l) t f)) (hn : l.length = n) (hm : n ≤ maxLen) : Rd w 1 (.slice (some ⟨g, 0, none⟩) n n) n (bys l) := by
  subst hn
  refine ⟨by rw [bys_length]; omega, .inr ⟨g, 0, l.length, rfl, lt_of_heap h, Nat.le_refl _, hm, fun j u hu => ?_⟩⟩
  rw [Nat.zero_add, cell_of_row w g j _ _ _ h]
  simpa [bysA] using hu
end Mem
namespace Ten
end Ten
end Go.Proofs.YtmonkggoilhngaaGreatDoor

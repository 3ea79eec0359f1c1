/- Two arrays of 32 bytes held against each other; a guarded operation that runs. -/
import Derived.Test.YtkembhonfehlbaaDoorFew
import Derived.Laws.StructEq
import Derived.Stop.BytesEq
namespace Go.Proofs.YtkembhonfehlbaaDoor
open Go.RowKit Bits Mem Sha
namespace Ref
theorem size_u8 (w : World) : (sizeOf 5).run Tryd.prog w = .ok 1 w := by
  obtain ⟨i0, h1, h2⟩ : ∃ i0, Tryd.prog.info? 5 = some i0 ∧ i0.size = 1 := by
    have : (Tryd.prog.info? 5).map (·.size) = some 1 := by kernel_rfl
    obtain ⟨i0, h1, h2⟩ := Option.map_eq_some_iff.1 this
    exact ⟨i0, h1, h2⟩
  simp [sizeOf, typeInfo, h1, h2]
theorem guard32 : Tryd.prog.eqGuardType Tryd.prog.depth 22 = false := by kernel_rfl
@[go_sem] theorem run_guard32 (op : BinOp) (x y : Operand) (xs ys : Array Value) (w : World) : (eqGuard op 22 x y (.agg xs) (.agg ys)).run Tryd.prog w = .ok () w := run_eqGuard_agg (P := Tryd.prog) w op 22 x y xs ys guard32
@[go_sem] theorem run_equal32 (a b : List UInt8) (w : World) (ha : a.length = 32) (hb : b.length = 32) : (Op.equalIn 10000 22 (.agg (bysA a)) (.agg (bysA b))).run Tryd.prog w = .ok (a == b) w :=
  run_equalIn_bytes (P := Tryd.prog) w 9998 22 5 32 Tryd.underlying22 Tryd.underlying5 size_u8 a b ha hb
/-- A guarded operation that runs is as one without a guard. -/
theorem unguard16 {P : Program} {ops : Array Oper} {rest : List Oper} {o : Oper} {a : Act} {w : World} {Q : Exit → Act → World → Prop} (hw : Region.wanted o (yielded ops a.tmps) = true)
    (h : wpList P ops Q ({ o with guard := none } :: rest) a w) : wpList P ops Q (o :: rest) a w := by
  cases o
  unfold wpList at h ⊢
  rw [if_pos hw]
  split at h
  · exact h
  · rename_i h'; exact absurd rfl h'
theorem setRow_other (w : World) {g g' : Nat} (c : Array Value) (h : g ≠ g') : (w.setRow g c).heap[g']? = w.heap[g']? := by
  unfold World.setRow
  exact (Array.getElem?_modify ..).trans (if_neg h)
theorem setRow_size (w : World) (g : Nat) (c : Array Value) : (w.setRow g c).heap.size = w.heap.size := by
  unfold World.setRow
  simp
/-- A row of two cells: what is read of it, and both cells stored. -/
theorem two_cells {w : World} {g : Nat} {a b : Value} {t : TypeId} (hg : w.heap[g]? = some (.cells #[a, b] t (0, 0))) :
    w.cell? ⟨g, 0, none⟩ = some a ∧ w.cell? ⟨g, 1, none⟩ = some b ∧ w.frozen? ⟨g, 0, none⟩ = false ∧ w.frozen? ⟨g, 1, none⟩ = false :=
  ⟨(cell_of_row _ _ _ _ _ _ hg).trans rfl, (cell_of_row _ _ _ _ _ _ hg).trans rfl, by simp [World.frozen?, hg], by simp [World.frozen?, hg]⟩
theorem two_stored {w : World} {g : Nat} {a b a' b' : Value} {t : TypeId} (hg : w.heap[g]? = some (.cells #[a, b] t (0, 0))) : (w.setCell ⟨g, 0, none⟩ a').setCell ⟨g, 1, none⟩ b' = w.setRow g #[a', b'] := by
  rw [setCell_eq_setRow w g 0 _ _ _ _ hg, setCell_eq_setRow _ g 1 _ _ _ _ (setRow_heap w g _ _ _ _ hg), Rg.setRow_setRow]
  rfl
end Ref
end Go.Proofs.YtkembhonfehlbaaDoor

/- The walks of a table's Create and Import, and of custumallaw22.tables. -/
import Derived.Test.YtmonkggoilhngaaGreatDoorGL32P
namespace Go.Proofs.YtmonkggoilhngaaGreatDoor
open Go.RowKit Bits Mem Sha Cad
namespace Mem
theorem freeze_rowT (w : World) (g : Nat) (C : Array Value) (e : TypeId) (h : w.heap[g]? = some (.cells C e (0, 0))) : (w.freeze { block := g, off := C.size } 1).heap[g]? = some (.cells C e (C.size, C.size + 1)) := by
  unfold World.freeze
  simp only [Nat.one_ne_zero, if_false, Array.getElem?_modify, if_true, h]
  simp
theorem freeze_grownT (w : World) (g k : Nat) : w.grownBy (w.freeze { block := g, off := k } 1) (some g) := by
  refine ⟨rfl, rfl, rfl, by unfold World.freeze; simp, fun j hj hne => ?_⟩
  unfold World.freeze
  simp only [Nat.one_ne_zero, if_false, Array.getElem?_modify]
  rw [if_neg (fun e => hne (by rw [e]))]
/-- '[]byte("abc")' of a literal that lies anywhere: its row gets the mark of a string's bytes. -/
theorem conv_markT {P : Program} {w : World} {ops : Array Oper} {rest : List Oper} {o : Oper} {a : Act} {Q : Exit → Act → World → Prop} (hgd : o.guard = none) (t : TypeId) (y : Operand) (ho : o.op = .convert t t y)
    (e : TypeId) (ht : P.underlying t = some (.slice e)) (he : P.underlying e = some (.int .u8)) (g n c : Nat) (hx : a.eval y = .slice (some ⟨g, 0, none⟩) n c) (C : Array Value) (hrow : w.heap[g]? = some (.cells C e (0, 0)))
    (h : ∀ w', w'.heap[g]? = some (.cells C e (C.size, C.size + 1)) → w.grownBy w' (some g) → wpList P ops Q rest (a.put o.dst (.slice (some ⟨g, 0, none⟩) n c)) w') : wpList P ops Q (o :: rest) a w := by
  refine wpList_plain hgd fun K hK => ?_
  have hsh : w.shape? g = some (e, C.size) := by unfold World.shape?; rw [hrow]
  have hrun : (convert t t (.slice (some ⟨g, 0, none⟩) n c)).run P w = .ok (.slice (some ⟨g, 0, none⟩) n c) (w.freeze { block := g, off := C.size } 1) := by
    simp [convert, run_underlying ht, run_underlying he, markStringish, hsh]
  unfold Oper.wp
  simp [execOp, ho, hx, hrun, Result.andThen]
  exact hK _ _ (h _ (freeze_rowT w g C e hrow) (freeze_grownT w g C.size))
/-- A literal's row, that nobody else has. -/
def LitT (B : Nat) (F : Nat → Prop) (y : World) (q : Option Addr) (C : Array Value) (e : TypeId) : Prop := ∃ g, q = some ⟨g, 0, none⟩ ∧ F g ∧ B ≤ g ∧ y.heap[g]? = some (.cells C e (0, 0))
end Mem
namespace Rq
theorem r_buildT {P : Program} {ops : Array Oper} {Q : Exit → Act → World → Prop} {Pr : Nat → Prop} {w : World} {spec : List Sp} {fin : List Nat} {tail : List Oper} {p : Nat → Rc.Par} {j : Nat} {o : Oper} {r : List Oper} {a : Act} (hl : look spec j = none) (hw : Region.wanted o (yielded ops a.tmps) = true) (t : TypeId) (parts : Array (Nat × Operand)) (ho : o.op = .build t parts) (cs : Array Value)
    (hb : P.built t (parts.map fun (i, x) => (i, a.eval x)).toList = some cs)
    (h : ∀ K : Act → Prop, (∀ a, wpSeq P ops Q Pr w spec fin tail p (j + 1) r a → K a) → K (a.put o.dst (.agg cs))) : wpSeq P ops Q Pr w spec fin tail p j (o :: r) a :=
  r_run _ hl hw (fun x _ => by unfold execOp; simp only [ho, Sem.run_bind, run_build x t _ cs hb, Result.andThen_ok, Sem.run_pure]) h
end Rq
namespace Ten
def makeT (L : List Ten) (id : List UInt8) (d : Option Addr) (n : Nat) : (Int × Int) × List Ten := if id.length < 1 ∨ 16 < id.length then ((0, 1), L) else putT L id d n
end Ten
end Go.Proofs.YtmonkggoilhngaaGreatDoor
/- The walks of custumallaw22.tables and TenantNil. -/
namespace Go.Proofs.YtmonkggoilhngaaGreatDoor
open Go.RowKit Bits Mem Sha Cad
namespace Mem
theorem l_buildT {P : Program} {ops : Array Oper} {Q : Exit → Act → World → Prop} {a : Act} {w : World} {o : Oper} {rest : List Oper} (hg : o.guard = none) (t : TypeId) (parts : Array (Nat × Operand)) (ho : o.op = .build t parts) (cs : Array Value)
    (hb : P.built t (parts.map fun (i, x) => (i, a.eval x)).toList = some cs)
    (h : wpList P ops Q rest (a.put o.dst (.agg cs)) w) : wpList P ops Q (o :: rest) a w :=
  wpList_plain hg fun K hK => by
    unfold Oper.wp execOp
    simp only [ho, Sem.run_bind, run_build w t _ cs hb, Result.andThen_ok, Sem.run_pure]
    exact hK _ _ h
theorem Rd_of_rowT {w : World} {g n : Nat} {l : List UInt8} {t : TypeId} {f : Nat × Nat} (h : w.heap[g]? = some (.cells (bysA l) t f)) (hn : l.length = n) (hm : n ≤ maxLen) : Rd w 1 (.slice (some ⟨g, 0, none⟩) n n) n (bys l) := by
  subst hn
  refine ⟨by rw [bys_length]; omega, .inr ⟨g, 0, l.length, rfl, lt_of_heap h, Nat.le_refl _, hm, fun j u hu => ?_⟩⟩
  rw [Nat.zero_add, cell_of_row w g j _ _ _ h]
  simpa [bysA] using hu
theorem below_kp {w x y : World} {C : Nat → Prop} (h : Below w.heap.size w x) (k : Kp C x y) (hC : ∀ j, C j → w.heap.size ≤ j) : Below w.heap.size w y :=
  ⟨k.os.trans h.os, k.tape.trans h.tape, k.output.trans h.output, Nat.le_trans h.size k.size, fun j hj => (k.block j (Nat.lt_of_lt_of_le hj h.size) (fun hc => by have := hC j hc; omega)).trans (h.block j hj)⟩
end Mem
namespace Ten
def K0 : List UInt8 := List.replicate 64 0
theorem tab_a (d : Option Addr) : makeT [] [97] d 1 = ((0, 0), [⟨[97], 1, 0, d⟩]) := rfl
theorem tab_b (d e : Option Addr) : makeT [⟨[97], 1, 0, d⟩] [98] e 1 = ((0, 7), [⟨[97], 1, 0, d⟩]) := rfl
theorem tab_d (d : Option Addr) : delT [⟨[97], 1, 0, d⟩] [97] = ((0, 0), [⟨[97], 3, 0, none⟩]) := rfl
theorem tab_c (d : Option Addr) : makeT [⟨[97], 3, 0, none⟩] [97] d 1 = ((0, 9), [⟨[97], 3, 0, none⟩]) := rfl
theorem srt_nilT : Srt (([] : List Ten).map core) := by intro i j x y _ hx; simp at hx
theorem srt_one (x : Ten) : Srt ([x].map core) := by
  intro i j x y hij hx hy
  have := (List.getElem?_eq_some_iff.1 hy).1
  simp at this
  omega
theorem pl_nil (n : Nat) : ∀ x ∈ ([] : List Ten), ¬ x.state = 3 → 0 ≤ x.place ∧ x.place < (n : Int) := by intro x hx; simp at hx
theorem pl_one (x : Ten) (h : 0 ≤ x.place ∧ x.place < ((1 : Nat) : Int)) : ∀ y ∈ [x], ¬ y.state = 3 → 0 ≤ y.place ∧ y.place < ((1 : Nat) : Int) := by intro y hy; simp at hy; subst hy; intro _; exact h
end Ten
end Go.Proofs.YtmonkggoilhngaaGreatDoor

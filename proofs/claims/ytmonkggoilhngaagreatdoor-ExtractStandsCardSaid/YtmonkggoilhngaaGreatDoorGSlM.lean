/- Rows of elements of many cells: what a copy within one and a clear do, and rows of one's own of which a part is written. -/
import Derived.Test.YtmonkggoilhngaaGreatDoorGConcW
import Derived.Laws.IdiomCopy
import Derived.Lib.Overlaps
import Derived.Lib.AppendZerosOnto
import Derived.Laws.Externs
import Derived.Deep.RegionLaw
namespace Go.Proofs.YtmonkggoilhngaaGreatDoor
open Go.RowKit
namespace Mem
/-- copy(d, s): all is read before anything is written. -/
theorem run_copy_sz {P : Program} (w : World) (s : Nat) (dT sT ty elem : TypeId) (b o dLen dCap : Nat) (a : Addr) (sLen sCap k : Nat) (cs : List Value)
    (hu : P.underlying dT = some (.slice elem)) (hs : (P.info? elem).map (·.size) = some s) (hk : Nat.min sLen dLen = k) (hn : cs.length = k * s)
    (hsrc : ∀ j v, cs[j]? = some v → w.cell? (a.add j) = some v) (hc : ∀ j, j < cs.length → (w.cell? ⟨b, o + j, none⟩).isSome = true) (hf : ∀ j, j < cs.length → w.frozen? ⟨b, o + j, none⟩ = false) (h1 : ∀ v ∈ cs, v.oneCell' = true) :
    (Builtin.copy_ #[dT, sT] ty #[.slice (some ⟨b, o, none⟩) dLen dCap, .slice (some a) sLen sCap]).run P w = .ok (goInt k) (w.setCells b o cs) := by
  have hl := run_loadCells_list (P := P) w a cs hsrc
  have hst := run_storeCells_cells (P := P) b o cs 0 w (by simpa using hc) (by simpa using hf) h1
  cases hq : P.info? elem with
  | none => simp [hq] at hs
  | some i =>
    have hi : i.size = s := by simpa [hq] using hs
    rw [hn] at hl
    simp [Builtin.copy_, run_underlying hu, Builtin.lenOf, Builtin.firstCells, sizeOf, typeInfo, hq, hi, hk, hl, hst]
/-- clear(s). -/
theorem run_clear_sz {P : Program} (w : World) (t e ty : TypeId) (z : Value) (zs : List Value) (ht : P.underlying t = some (.slice e)) (hv : ∀ w, (zeroValue e).run P w = .ok z w) (b o n c : Nat)
    (hz : (Builtin.zeroCells z.cells n).toList = zs) (h1 : ∀ v ∈ zs, v.oneCell' = true) (hn : 0 < n)
    (hc : ∀ j, j < zs.length → (w.cell? ⟨b, o + j, none⟩).isSome = true) (hf : ∀ j, j < zs.length → w.frozen? ⟨b, o + j, none⟩ = false) :
    (Builtin.clear_ #[t] ty #[.slice (some ⟨b, o, none⟩) n c]).run P w = .ok (.tuple #[]) (w.setCells b o zs) := by
  have hst := run_storeCells_cells (P := P) b o zs 0 w (by simpa using hc) (by simpa using hf) h1
  simp only [Nat.add_zero] at hst
  obtain ⟨m, rfl⟩ : ∃ m, n = m + 1 := ⟨n - 1, by omega⟩
  simp [Builtin.clear_, run_underlying ht, hv, hz, hst]
section
variable {w w' : World} {B s n c g : Nat} {e : TypeId} {xs : List Value}
theorem Ow.cells (h : Ow w B e s (.slice (some ⟨g, 0, none⟩) n c) n xs) : ∀ j, j < c * s → (w.cell? ⟨g, j, none⟩).isSome = true ∧ w.frozen? ⟨g, j, none⟩ = false := by
  obtain ⟨h1, h2⟩ := h
  rcases h2 with ⟨hv, _⟩ | ⟨g', cap, cur, fz, hv, hb, hg, hf, hnc, hcm, hcs, ht⟩
  · cases hv
  · cases hv
    intro j hj
    refine ⟨by rw [cell_of_row w g _ _ _ _ hg, Array.getElem?_eq_getElem (by omega)]; rfl, ?_⟩
    have := hf j (by omega)
    simp only [World.frozen?, hg]
    simpa using this
theorem Ow.cap (h : Ow w B e s (.slice (some ⟨g, 0, none⟩) n c) n xs) : n ≤ c ∧ c ≤ maxLen ∧ B ≤ g ∧ g < w.heap.size := by
  have hl := h.lt g rfl
  rcases h.2 with ⟨hv, _⟩ | ⟨g', cap, cur, fz, hv, hb, hg, hf, hnc, hcm, hcs, ht⟩
  · cases hv
  · cases hv
    exact ⟨hnc, hcm, hl⟩
theorem Ow.widen (h : Ow w B e s (.slice (some ⟨g, 0, none⟩) n c) n xs) (m : Nat) (hm : m ≤ c) (hnm : n ≤ m) : ∃ ys, ys.length = (m - n) * s ∧ Ow w B e s (.slice (some ⟨g, 0, none⟩) m c) m (xs ++ ys) := by
  obtain ⟨h1, h2⟩ := h
  rcases h2 with ⟨hv, _⟩ | ⟨g', cap, cur, fz, hv, hb, hg, hf, hnc, hcm, hcs, ht⟩
  · cases hv
  · cases hv
    have hmc : m * s ≤ c * s := Nat.mul_le_mul_right _ hm
    have hnm' : n * s ≤ m * s := Nat.mul_le_mul_right _ hnm
    have hl : (cur.toList.drop (n * s) |>.take ((m - n) * s)).length = (m - n) * s := by
      rw [List.length_take, List.length_drop, Array.length_toList, hcs, Nat.sub_mul]
      omega
    have he : xs ++ ((cur.toList.drop (n * s)).take ((m - n) * s)) = cur.toList.take (m * s) := by
      rw [← ht]
      have : m * s = n * s + (m - n) * s := by rw [Nat.sub_mul]; omega
      rw [this, List.take_add]
    refine ⟨_, hl, by rw [List.length_append, hl, h1, Nat.sub_mul]; omega, .inr ⟨g, c, cur, fz, rfl, hb, hg, hf, hm, hcm, hcs, he.symm⟩⟩
theorem Ow.cut (h : Ow w B e s (.slice (some ⟨g, 0, none⟩) n c) n xs) (m : Nat) (hm : m ≤ n) : Ow w B e s (.slice (some ⟨g, 0, none⟩) m c) m (xs.take (m * s)) := by
  obtain ⟨h1, h2⟩ := h
  rcases h2 with ⟨hv, _⟩ | ⟨g', cap, cur, fz, hv, hb, hg, hf, hnc, hcm, hcs, ht⟩
  · cases hv
  · cases hv
    have hmc : m * s ≤ n * s := Nat.mul_le_mul_right _ hm
    refine ⟨by rw [List.length_take]; omega, .inr ⟨g, c, cur, fz, rfl, hb, hg, hf, by omega, hcm, hcs, ?_⟩⟩
    rw [← ht, List.take_take, Nat.min_eq_left hmc]
/-- A part of the row is written. -/
theorem Ow.write (h : Ow w B e s (.slice (some ⟨g, 0, none⟩) n c) n xs) (o : Nat) (vs : List Value) (ho : o + vs.length ≤ n * s) :
    Ow (w.setCells g o vs) B e s (.slice (some ⟨g, 0, none⟩) n c) n (xs.take o ++ vs ++ xs.drop (o + vs.length)) ∧ w.grownBy (w.setCells g o vs) (some g) := by
  obtain ⟨h1, h2⟩ := h
  rcases h2 with ⟨hv, _⟩ | ⟨g', cap, cur, fz, hv, hb, hg, hf, hnc, hcm, hcs, ht⟩
  · cases hv
  · cases hv
    have hmc : n * s ≤ c * s := Nat.mul_le_mul_right _ hnc
    obtain ⟨cur', k1, k2, k3, k4⟩ := setCells_block g e fz vs o w cur hg
    refine ⟨⟨by simp only [List.length_append, List.length_take, List.length_drop]; omega, .inr ⟨g, c, cur', fz, rfl, hb, k1, fun j hj => hf j (by omega), hnc, hcm, by omega, ?_⟩⟩, k4⟩
    apply List.ext_getElem?
    intro j
    have hx : xs[j]? = if j < n * s then cur[j]? else none := by
      rw [← ht, List.getElem?_take]; simp
    rw [List.getElem?_take, Array.getElem?_toList, k3 j]
    by_cases hj : j < n * s
    · rw [if_pos hj]
      by_cases hjo : j < o
      · rw [if_neg (by omega), List.append_assoc, List.getElem?_append_left (by rw [List.length_take]; omega), List.getElem?_take, if_pos hjo, hx, if_pos hj]
      · by_cases hjv : j < o + vs.length
        · rw [if_pos (by omega), List.append_assoc, List.getElem?_append_right (by rw [List.length_take]; omega), List.length_take, Nat.min_eq_left (by omega), List.getElem?_append_left (by omega)]
        · rw [if_neg (by omega), List.getElem?_append_right (by simp only [List.length_append, List.length_take]; omega), List.getElem?_drop]
          simp only [List.length_append, List.length_take, Nat.min_eq_left (show o ≤ xs.length by omega)]
          rw [show o + vs.length + (j - (o + vs.length)) = j by omega, hx, if_pos hj]
    · rw [if_neg hj]
      rw [List.getElem?_eq_none]
      simp only [List.length_append, List.length_take, List.length_drop]
      omega
/-- The block's shape, as slices.overlaps asks for it. -/
theorem Ow.shape (h : Ow w B e s (.slice (some ⟨g, 0, none⟩) n c) n xs) : w.shape? g = some (e, c * s) := by
  rcases h.2 with ⟨hv, _⟩ | ⟨g', cap, cur, fz, hv, hb, hg, hf, hnc, hcm, hcs, ht⟩
  · cases hv
  · cases hv
    unfold World.shape?
    rw [hg, ← hcs]
end
end Mem
end Go.Proofs.YtmonkggoilhngaaGreatDoor
/- slices.Insert of one element, anywhere in a row of one's own. -/
namespace Go.Proofs.YtmonkggoilhngaaGreatDoor
open Go.RowKit
namespace Mem
section
variable {P : Program}
theorem l_copy {ops : Array Oper} {rest : List Oper} {o : Oper} {a : Act} {w : World} {Q : Exit → Act → World → Prop} (hgd : o.guard = none) (d s : Operand) (t t' : TypeId)
    (ho : o.op = .call { callee := .builtin .copy, args := #[d, s], argTypes := #[t, t'] }) (v u : Value) (hd : a.eval d = v) (hs : a.eval s = u) {v' : Value} {w' : World}
    (hr : (Builtin.copy_ #[t, t'] o.type #[v, u]).run P w = .ok v' w') (h : wpList P ops Q rest (a.put o.dst v') w') : wpList P ops Q (o :: rest) a w :=
  wpList_plain hgd fun _ hK => by
    unfold Oper.wp execOp
    simp only [ho, resolve, invoke, builtin, Sem.run_bind, Sem.run_pure, Result.andThen_ok, List.map_toArray, List.map_cons, List.map_nil, hd, hs, hr]
    exact hK _ _ h
theorem l_append {ops : Array Oper} {rest : List Oper} {o : Oper} {a : Act} {w : World} {Q : Exit → Act → World → Prop} (hgd : o.guard = none) (d s : Operand) (t t' : TypeId)
    (ho : o.op = .call { callee := .builtin .append, args := #[d, s], argTypes := #[t, t'] }) (v u : Value) (hd : a.eval d = v) (hs : a.eval s = u) {v' : Value} {w' : World}
    (hr : (Builtin.append_ #[t, t'] o.type #[v, u]).run P w = .ok v' w') (h : wpList P ops Q rest (a.put o.dst v') w') : wpList P ops Q (o :: rest) a w :=
  wpList_plain hgd fun _ hK => by
    unfold Oper.wp execOp
    simp only [ho, resolve, invoke, builtin, Sem.run_bind, Sem.run_pure, Result.andThen_ok, List.map_toArray, List.map_cons, List.map_nil, hd, hs, hr]
    exact hK _ _ h
theorem step_copy {ops : Array Oper} {o : Oper} {a : Act} {w : World} {K : Act → World → Prop} {Q : Exit → Act → World → Prop} {E : Prop}
    (hg : o.guard = none) (d x : Operand) (dT sT : TypeId) (hop : o.op = Op.call { callee := Callee.builtin Builtin.copy, args := #[d, x], argTypes := #[dT, sT] })
    (v u : Value) (hd : a.eval d = v) (hx : a.eval x = u) {v' : Value} {w' : World} (hr : (Builtin.copy_ #[dT, sT] o.type #[v, u]).run P w = .ok v' w') (hK : K (a.put o.dst v') w') :
    if Region.wanted o (yielded ops a.tmps) = true then Oper.wp P o a w K Q else E := by
  have hw : Region.wanted o (yielded ops a.tmps) = true := by simp [Region.wanted, hg]
  rw [if_pos hw]
  unfold Oper.wp
  simp [execOp, hop, resolve, invoke, builtin, hd, hx, hr, Result.andThen]
  exact hK
theorem step_append {ops : Array Oper} {o : Oper} {a : Act} {w : World} {K : Act → World → Prop} {Q : Exit → Act → World → Prop} {E : Prop}
    (hg : o.guard = none) (d x : Operand) (dT sT : TypeId) (hop : o.op = Op.call { callee := Callee.builtin Builtin.append, args := #[d, x], argTypes := #[dT, sT] })
    (v u : Value) (hd : a.eval d = v) (hx : a.eval x = u) {v' : Value} {w' : World} (hr : (Builtin.append_ #[dT, sT] o.type #[v, u]).run P w = .ok v' w') (hK : K (a.put o.dst v') w') :
    if Region.wanted o (yielded ops a.tmps) = true then Oper.wp P o a w K Q else E := by
  have hw : Region.wanted o (yielded ops a.tmps) = true := by simp [Region.wanted, hg]
  rw [if_pos hw]
  unfold Oper.wp
  simp [execOp, hop, resolve, invoke, builtin, hd, hx, hr, Result.andThen]
  exact hK
theorem parts3M {t : TypeId} {z : Value} {s b : Nat} (h : (P.info? t).map (fun i => (i.zero, i.size, i.bytes)) = some (some z, s, b)) : ∃ i0, P.info? t = some i0 ∧ i0.zero = some z ∧ i0.size = s ∧ i0.bytes = b := by
  obtain ⟨i0, h1, h2⟩ := Option.map_eq_some_iff.1 h
  have h2 := Prod.mk.inj h2
  have h3 := Prod.mk.inj h2.2
  exact ⟨i0, h1, h2.1, h3.1, h3.2⟩
end
section
variable {w w' : World} {B s n c g : Nat} {e : TypeId} {xs : List Value} {q : Option Addr}
theorem Ow.some_of_lt (h : Ow w B e s (.slice q n c) n xs) (hn : 0 < n) : ∃ g, q = some ⟨g, 0, none⟩ := by
  rcases h.2 with ⟨_, h0⟩ | ⟨g, cap, cur, fz, hv, _⟩
  · omega
  · injection hv with h1; exact ⟨g, h1⟩
theorem Ow.cellx (h : Ow w B e s (.slice (some ⟨g, 0, none⟩) n c) n xs) {j : Nat} {u : Value} (hj : xs[j]? = some u) : w.cell? ⟨g, j, none⟩ = some u := by
  rcases h.2 with ⟨hv, _⟩ | ⟨g', cap, cur, fz, hv, hb, hg, hf, hnc, hcm, hcs, ht⟩
  · cases hv
  · cases hv
    rw [cell_of_row w g _ _ _ _ hg]
    rw [← ht, List.getElem?_take] at hj
    split at hj
    · simpa using hj
    · cases hj
end
end Mem
namespace Cad
open Mem
end Cad
end Go.Proofs.YtmonkggoilhngaaGreatDoor

/- Arguments opened: a What (an array of 32 bytes, a number, a slice of bytes). -/
import Derived.Test.YtkembhonfehlbaaDoorOpen
import Derived.Test.YtkembhonfehlbaaDoorCommitM
import Derived.Deep.Slices
namespace Go.Proofs.YtkembhonfehlbaaDoor
open Go.ChangeShapes Go.WideShapes Go.ChangeAt Go.RowKit Mem Sha Ref
namespace Wrap
section
variable {H : Type} {enc : TypeId × Value → H} {W : World} {base : Nat}
set_option maxRecDepth 100000 in
theorem trod_arr {P : Program} {n fuel : Nat} {t e : TypeId} {cs : List Value} {x : DataW H × List MemPlace} (ht : P.underlying t = some (.array n e)) (h : DataW.trod enc P W 0 (fun _ => true) true fuel t cs = some x) :
    cs.length = P.cellsOf t ∧ ∃ k, ∀ i, i < n → ∃ y, DataW.trod enc P W 0 (fun _ => true) true k e ((cs.drop (i * P.cellsOf e)).take (P.cellsOf e)) = some y := by
  cases fuel with
  | zero => simp [DataW.trod] at h
  | succ k =>
    unfold DataW.trod at h
    rw [ht] at h
    split at h <;> simp_all
    obtain ⟨_, xs, hxs, _⟩ := h
    refine ⟨k, fun i hi => ?_⟩
    have h1 := mapM_some_length hxs
    rw [List.length_range] at h1
    have := mapM_some_get hxs i i (by simp [hi])
    rw [List.getElem?_eq_getElem (by omega)] at this
    exact ⟨_, _, this⟩
set_option maxRecDepth 100000 in
theorem cells32 : Tryd.prog.cellsOf 22 = 32 := by kernel_rfl
set_option maxRecDepth 100000 in
theorem trod_arr32 {fuel : Nat} {cs : List Value} {x : DataW H × List MemPlace} (h : DataW.trod enc Tryd.prog W 0 (fun _ => true) true fuel 22 cs = some x) : ∃ l : List UInt8, cs = bys l ∧ l.length = 32 := by
  obtain ⟨h1, k, h2⟩ := trod_arr Tryd.underlying22 h
  rw [cells32] at h1
  obtain ⟨l, hl⟩ := bytes_of cs (fun v hv => by
    obtain ⟨i, hi⟩ := List.mem_iff_getElem?.1 hv
    have hlt := (List.getElem?_eq_some_iff.1 hi).1
    obtain ⟨y, hy⟩ := h2 i (by omega)
    rw [cellsU8, Nat.mul_one] at hy
    obtain ⟨n, hn, _, hwf⟩ := DataW.trod_int Tryd.underlying5 hy
    have : (cs.drop i).take 1 = [v] := by
      rw [List.drop_eq_getElem_cons hlt, List.take_succ_cons, List.take_zero]
      rw [List.getElem?_eq_getElem hlt] at hi
      rw [Option.some.inj hi]
    rw [this] at hn
    cases hn
    have h2 : 0 ≤ n ∧ n ≤ 255 := by
      simp [Lit.wf, IntKind.min, IntKind.max, IntKind.signed, IntKind.bits] at hwf
      omega
    exact ⟨UInt8.ofNat n.toNat, by congr 1; rw [UInt8.toNat_ofNat']; omega⟩)
  refine ⟨l, hl, ?_⟩
  rw [hl, bys_length] at h1
  exact h1
set_option maxRecDepth 100000 in
/-- A slice of bytes, by its cell. -/
theorem trod_bytes {fuel : Nat} {v : Value} {x : DataW H × List MemPlace} (hok : Cell.okWide Tryd.prog W .any base 23 v) (h : DataW.trod enc Tryd.prog W 0 (fun _ => true) true fuel 23 [v] = some x) :
    ∃ q c l, v = .slice q (List.length l) c ∧ Rd W 1 (.slice q l.length c) l.length (bys l) := by
  have hcs : v.cells.toList = [v] := by
    simp only [Cell.okWide, Tryd.underlying23, Cell.ok] at hok
    cases v <;> first | rfl | exact absurd hok (by simp)
  exact open_bytes (by unfold Value.okWide; rw [Tryd.underlying23]; exact hok) (d := x.1) (p := x.2) ⟨fuel, by rw [hcs]; exact h⟩
set_option maxRecDepth 100000 in
theorem typesWhat : Tryd.prog.cellTypes Tryd.prog.depth 25 = some (List.replicate 32 5 ++ [3, 23]) := by kernel_rfl
set_option maxRecDepth 100000 in
/-- An argument of type What. -/
theorem open_what {v : Value} {d : DataW H} {p : List MemPlace} (hv : Value.okWide Tryd.prog W .any base 25 v) (h : DataW.Trod enc Tryd.prog W 0 (fun _ => true) true 25 v d p) :
    ∃ ix n q c l, v = .agg (whatA ix n (.slice q (List.length l) c)) ∧ ix.length = 32 ∧ Rd W 1 (.slice q l.length c) l.length (bys l) ∧ -9223372036854775808 ≤ n ∧ n ≤ 9223372036854775807 := by
  unfold Value.okWide at hv
  rw [Tryd.underlying25] at hv
  obtain ⟨cs, rfl, hsz, ts, hts, _, hc⟩ := hv
  obtain rfl := Option.some.inj (typesWhat.symm.trans hts)
  obtain ⟨fuel, h⟩ := h
  obtain ⟨xs, k, _, _, hlen, hxs, hf⟩ := DataW.trod_struct Tryd.underlying25 h
  have hxs : xs.length = 3 := hxs
  obtain ⟨C, hC⟩ : ∃ C, C = cs.toList := ⟨_, rfl⟩
  have hl34 : C.length = 34 := by
    have h34 : Tryd.prog.cellsOf 25 = 34 := by kernel_rfl
    rw [hC, ← h34]; exact hlen
  have ci : Tryd.prog.cellsOf 3 = 1 := by kernel_rfl
  have cl : Tryd.prog.cellsOf 23 = 1 := by kernel_rfl
  obtain ⟨y0, g0⟩ : ∃ y, DataW.trod enc Tryd.prog W 0 (fun _ => true) true k 22 ((C.drop 0).take 32) = some y := ⟨_, by rw [hC, ← cells32]; exact (hf 0 _ rfl).trans (List.getElem?_eq_getElem (by omega))⟩
  obtain ⟨y1, g1⟩ : ∃ y, DataW.trod enc Tryd.prog W 0 (fun _ => true) true k 3 ((C.drop 32).take 1) = some y := ⟨_, by rw [hC, ← ci]; exact (hf 1 _ rfl).trans (List.getElem?_eq_getElem (by omega))⟩
  obtain ⟨y2, g2⟩ : ∃ y, DataW.trod enc Tryd.prog W 0 (fun _ => true) true k 23 ((C.drop 33).take 1) = some y := ⟨_, by rw [hC, ← cl]; exact (hf 2 _ rfl).trans (List.getElem?_eq_getElem (by omega))⟩
  obtain ⟨ix, e0, hix⟩ := trod_arr32 g0
  obtain ⟨n, e1, _, hwf⟩ := DataW.trod_int Tryd.underlying3 g1
  have h33 : (C.drop 33).take 1 = [C[33]] := by
    rw [List.drop_eq_getElem_cons (by omega), List.take_succ_cons, List.take_zero]
  rw [h33] at g2
  obtain ⟨u, hu, hok⟩ := hc 33 C[33] (by rw [← Array.getElem?_toList, ← hC]; exact List.getElem?_eq_getElem _)
  have hu' : 23 = u := by
    have : some 23 = some u := hu
    exact Option.some.inj this
  subst hu'
  obtain ⟨q, c, l, hv, hl⟩ := trod_bytes hok g2
  have hfr : -9223372036854775808 ≤ n ∧ n ≤ 9223372036854775807 := by
    simp [Lit.wf, IntKind.min, IntKind.max, IntKind.signed, IntKind.bits] at hwf
    omega
  refine ⟨ix, n, q, c, l, ?_, hix, hl, hfr.1, hfr.2⟩
  congr 1
  have hCC : C = (C.drop 0).take 32 ++ (C.drop 32).take 1 ++ (C.drop 33).take 1 := by
    apply List.ext_getElem?
    intro j
    rw [List.append_assoc]
    by_cases h1 : j < 32
    · rw [List.getElem?_append_left (by simp; omega)]; simp [List.getElem?_take, h1]
    · rw [List.getElem?_append_right (by simp; omega)]
      by_cases h2 : j < 33
      · rw [List.getElem?_append_left (by simp; omega)]
        simp only [List.getElem?_take, List.getElem?_drop, List.length_take, List.length_drop]
        rw [if_pos (by omega)]
        congr 1; omega
      · rw [List.getElem?_append_right (by simp; omega)]
        simp only [List.getElem?_take, List.getElem?_drop, List.length_take, List.length_drop]
        by_cases h3 : j < 34
        · rw [if_pos (by omega)]
          congr 1; omega
        · rw [if_neg (by omega), List.getElem?_eq_none (by omega)]
  rw [e0, e1, h33, hv] at hCC
  apply Array.toList_inj.1
  rw [← hC, hCC]
  simp [whatA, bysA]
end
end Wrap
end Go.Proofs.YtkembhonfehlbaaDoor

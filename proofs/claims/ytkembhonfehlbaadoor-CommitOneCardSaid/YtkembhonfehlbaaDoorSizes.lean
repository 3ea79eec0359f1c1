/- The walk of custumallaw01.Sha2Sizes. -/
import Derived.Test.YtkembhonfehlbaaDoorSums
namespace Go.Proofs.YtkembhonfehlbaaDoor
open Go.RowKit Bits Mem Sha
namespace Ref
theorem HashAt.below {w w' : World} {hb : Nat} {all : List UInt8} (h : HashAt w hb all) (hbl : Below w.heap.size w w') : HashAt w' hb all := by
  obtain ⟨p, c, t, h1, h2, h3⟩ := h
  exact ⟨p, c, t, Rg.below_row hbl (lt_of_heap h1) h1, h2.below hbl, h3⟩
theorem HashAt.lt {w : World} {hb : Nat} {all : List UInt8} (h : HashAt w hb all) : hb < w.heap.size := by
  obtain ⟨p, c, t, h1, _⟩ := h
  exact lt_of_heap h1
/-- What is written to another hash turns this one not. -/
theorem HashAt.other {w w' : World} {hb f : Nat} {all all' : List UInt8} (h : HashAt w hb all) (h' : HashAt w f all') (hne : hb ≠ f) (hg : w.grownBy w' (some f)) : HashAt w' hb all := by
  obtain ⟨p, c, t, h1, h2, h3⟩ := h
  obtain ⟨p', c', t', g1, _, _⟩ := h'
  refine ⟨p, c, t, (hg.block hb (lt_of_heap h1) (by simpa using hne)).trans h1, ?_, h3⟩
  refine ⟨h2.1, ?_⟩
  rcases h2.2 with hn | ⟨b, off, cap, hv, hb, hnc, hcm, hc⟩
  · exact .inl hn
  · refine .inr ⟨b, off, cap, hv, Nat.lt_of_lt_of_le hb hg.size, hnc, hcm, fun j u hu => ?_⟩
    have hcu := hc j u hu
    by_cases hbf : b = f
    · subst hbf
      rw [cell_of_row w b _ _ _ _ g1] at hcu
      have hm := Array.mem_of_getElem? hcu
      have hu8 : ∃ x : UInt8, u = .int .u8 (x.toNat : Int) := by
        have := List.mem_of_getElem? hu
        simp only [bys, List.mem_map] at this
        obtain ⟨x, _, rfl⟩ := this
        exact ⟨x, rfl⟩
      obtain ⟨x, rfl⟩ := hu8
      simp [cells] at hm
    · exact hg.cell hcu (by simpa using hbf)
theorem made_bys (n : Nat) : (madeCells (Value.int .u8 0).cells (n * 1)).toList = bys (List.replicate n 0) := by
  apply List.ext_getElem?
  intro i
  unfold madeCells
  by_cases hi : i < n
  · simp [bys, hi, Value.cells, Nat.mod_one]
  · simp [bys, hi]
theorem Parts.lit1 (w : World) (a : List UInt8) (x : Value) (hx : ∃ q c, x = .slice q a.length c ∧ Rd w 1 (.slice q a.length c) a.length (bys a)) :
    Parts (w.alloc (.cells #[x] 23)) (.slice (some ⟨w.heap.size, 0, none⟩) 1 1) [a] := by
  have hb : Below w.heap.size w (w.alloc (.cells #[x] 23)) := (Below.refl _ _).alloc (Nat.le_refl _) _
  refine ⟨[x], Rd_lit w #[x] 23 1 1 rfl (by decide), fun i hi => ?_⟩
  obtain ⟨q, c, rfl, hx⟩ := hx
  match i, hi with
  | 0, _ => exact ⟨q, c, rfl, hx.below hb⟩
theorem mod400 (n : Int) : ∃ m : Nat, m < 400 ∧ wrap64 ((IntKind.u64.wrap n).tmod 400) = (m : Int) := by
  have h1 : 0 ≤ IntKind.u64.wrap n := by rw [IntKind.wrap_u64]; omega
  have h2 : (IntKind.u64.wrap n).tmod 400 = IntKind.u64.wrap n % 400 := Int.tmod_eq_emod_of_nonneg h1
  refine ⟨(IntKind.u64.wrap n % 400).toNat, by omega, ?_⟩
  rw [h2]
  have h3 : 0 ≤ IntKind.u64.wrap n % 400 ∧ IntKind.u64.wrap n % 400 < 400 := by omega
  rw [IntWalk.wrap64_in _ (by omega)]
  omega
end Ref
end Go.Proofs.YtkembhonfehlbaaDoor

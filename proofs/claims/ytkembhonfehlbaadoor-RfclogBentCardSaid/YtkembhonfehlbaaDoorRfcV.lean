/- A sum stored into a row of sums of one's own; slices.Reverse on rows of sums. -/
import Derived.Test.YtkembhonfehlbaaDoorRfcI
namespace Go.Proofs.YtkembhonfehlbaaDoor
open Go.RowKit Bits Mem Sha
namespace Ref
theorem All32.set {L : List (List UInt8)} (h : All32 L) (k : Nat) {y : List UInt8} (hy : y.length = 32) : All32 (L.set k y) := fun x hx => by
  rcases List.mem_or_eq_of_mem_set hx with h' | h'
  · exact h x h'
  · rw [h']; exact hy
theorem frozen_row {w : World} {g j : Nat} {c : Array Value} {e : TypeId} {fz : Nat × Nat} (hg : w.heap[g]? = some (.cells c e fz)) (h : ¬ (fz.1 ≤ j ∧ j < fz.2)) : w.frozen? ⟨g, j, none⟩ = false := by
  unfold World.frozen?
  rw [hg]
  simp
  omega
theorem OwL.store {w : World} {base g c k : Nat} {O : List (List UInt8)} {y : List UInt8} (h : OwL w base (.slice (some ⟨g, 0, none⟩) O.length c) O) (hk : k < O.length) (hy : y.length = 32) :
    (storeVar 22 ⟨g, k * 32, none⟩ (.agg (bysA y))).run Tryd.prog w = .ok () (w.setCells g (k * 32) (bys y)) ∧
    OwL (w.setCells g (k * 32) (bys y)) base (.slice (some ⟨g, 0, none⟩) O.length c) (O.set k y) ∧ w.grownBy (w.setCells g (k * 32) (bys y)) (some g) := by
  obtain ⟨h1, h2⟩ := h.2
  rcases h2 with ⟨hv, _⟩ | ⟨g', cap, cur, fz, hv, hb, hg, hf, hnc, hcm, hcs, ht⟩
  · cases hv
  · cases hv
    have hle : O.length * 32 ≤ c * 32 := Nat.mul_le_mul_right _ hnc
    have hbl : (bys y).length = 32 := by rw [bys_length, hy]
    obtain ⟨cur', h3, h4, h5, h6⟩ := setCells_block g _ fz (bys y) (k * 32) w cur hg
    have hthere : w.there g (k * 32) (bysA y).size := fun j hj => by
      rw [bysA_size, hy] at hj
      refine ⟨?_, frozen_row hg (hf _ (by omega))⟩
      rw [cell_of_row w g _ _ _ _ hg, Array.getElem?_eq_getElem (by omega)]
      rfl
    refine ⟨run_storeVar_mid w g (k * 32) _ (bysA y) hthere (by rw [bysA_size, hy]; exact info32) (by
      rw [Array.all_eq_true_iff_forall_mem]
      intro u hu
      exact bys_one y u (by simpa [bysA] using hu)), ⟨h.1.set k hy, ?_⟩, h6⟩
    have hal := h.1.set k hy
    have hfl := hal.flat
    rw [List.length_set] at hfl ⊢
    refine ⟨by rw [bys_length, hfl], .inr ⟨g, c, cur', fz, rfl, hb, h3, by rw [h4]; exact hf, hnc, hcm, by rw [h4]; exact hcs, ?_⟩⟩
    refine List.ext_getElem? fun j => ?_
    rw [List.getElem?_take]
    by_cases hj : j < O.length * 32
    · rw [if_pos hj, Array.getElem?_toList, h5 j]
      obtain ⟨a, r, hr, rfl⟩ : ∃ a r, r < 32 ∧ j = a * 32 + r := ⟨j / 32, j % 32, Nat.mod_lt _ (by decide), by omega⟩
      have ha : a < O.length := by omega
      have e1 := flat_get a hal (by rw [List.length_set]; exact ha) r hr
      have e0 := flat_get a h.1 ha r hr
      unfold bys at ht ⊢
      rw [show (List.map (fun b : UInt8 => Value.int .u8 (b.toNat : Int)) (O.set k y).flatten)[a * 32 + r]? = Option.map (fun b : UInt8 => Value.int .u8 (b.toNat : Int)) (((O.set k y).getD a [])[r]?) from by rw [List.getElem?_map, e1]]
      by_cases hak : a = k
      · subst hak
        rw [if_pos (by simp [hy]; omega)]
        have : (O.set a y).getD a [] = y := by simp [List.getD, ha]
        rw [this, List.getElem?_map, show a * 32 + r - a * 32 = r by omega]
      · rw [if_neg (by simp [hy]; omega)]
        have : (O.set k y).getD a [] = O.getD a [] := by simp [List.getD, List.getElem?_set_ne (fun e => hak e.symm)]
        rw [this, ← e0, ← List.getElem?_map, ← ht, List.getElem?_take, if_pos hj, Array.getElem?_toList]
    · rw [if_neg hj, List.getElem?_eq_none (by rw [bys_length, hfl]; omega)]
end Ref
end Go.Proofs.YtkembhonfehlbaaDoor

/- The walk of the schedule's Tick. -/
import Derived.Test.YtmkoiddfkanmiaaCadC
namespace Go.Proofs.Ytmkoiddfkanmiaa
open Go.RowKit Bits Mem Sha
namespace Cad
def most : Int := 9223372036854775807
def tick1 (x : One) : One := { x with age := if x.age < 9223372036854775807 then x.age + 1 else x.age }
def isDue (x : One) : Bool := (tick1 x).age.tmod x.period == 0
def dues (L : List One) : List (List UInt8) := (L.filter isDue).map (·.id)
def ticked (k : Nat) (L : List One) : List One := (L.take k).map tick1 ++ L.drop k
theorem ticked_length (k : Nat) (L : List One) : (ticked k L).length = L.length := by simp [ticked]; omega
theorem ticked_at {k : Nat} {L : List One} {x : One} (hx : L[k]? = some x) : (ticked k L)[k]? = some x := by
  have hk := (List.getElem?_eq_some_iff.1 hx).1
  unfold ticked
  rw [List.getElem?_append_right (by simp; omega)]
  simp [Nat.min_eq_left (Nat.le_of_lt hk)]
  simpa using hx
theorem ticked_succ {k : Nat} {L : List One} {x : One} (hx : L[k]? = some x) : ticked (k + 1) L = (ticked k L).set k (tick1 x) := by
  have hk := (List.getElem?_eq_some_iff.1 hx).1
  refine List.ext_getElem? fun i => ?_
  unfold ticked
  rw [List.getElem?_set]
  by_cases h1 : i < k
  · rw [List.getElem?_append_left (by simp; omega), if_neg (by omega), List.getElem?_append_left (by simp; omega)]
    simp [h1, show i < k + 1 by omega]
  · by_cases h2 : i = k
    · subst h2
      rw [List.getElem?_append_left (by simp; omega), if_pos rfl, if_pos (by simp; omega)]
      simp [hx]
    · rw [List.getElem?_append_right (by simp; omega), if_neg (fun e => h2 e.symm), List.getElem?_append_right (by simp; omega)]
      simp only [List.length_map, List.length_take, List.getElem?_drop]
      congr 1
      omega
theorem dues_succ {k : Nat} {L : List One} {x : One} (hx : L[k]? = some x) : dues (L.take (k + 1)) = dues (L.take k) ++ (if isDue x then [x.id] else []) := by
  unfold dues
  rw [List.take_add_one, hx, List.filter_append, List.map_append]
  congr 1
  simp only [Option.toList_some, List.filter_cons, List.filter_nil]
  split <;> rfl
theorem oneA_getD (x : One) : (oneA x).toList = [.string ⟨x.id.toArray⟩, .int .i64 x.period, .int .i64 x.age] := rfl
/-- A row of schedule entries: what is read of one, and its age stored. -/
theorem row_cells {w : World} {B g c n k : Nat} {L : List One} {x : One} (h : Ow w B 58 3 (.slice (some ⟨g, 0, none⟩) n c) n (ones L)) (hn : L.length = n) (hx : L[k]? = some x) :
    w.cell? ⟨g, k * 3, none⟩ = some (.string ⟨x.id.toArray⟩) ∧ w.cell? ⟨g, k * 3 + 1, none⟩ = some (.int .i64 x.period) ∧ w.cell? ⟨g, k * 3 + 2, none⟩ = some (.int .i64 x.age) ∧ w.frozen? ⟨g, k * 3 + 2, none⟩ = false ∧
    ∀ a : Int, Ow (w.setCell ⟨g, k * 3 + 2, none⟩ (.int .i64 a)) B 58 3 (.slice (some ⟨g, 0, none⟩) n c) n (ones (L.set k { x with age := a })) := by
  have hk := (List.getElem?_eq_some_iff.1 hx).1
  have hl := ones_length L
  obtain ⟨h1, h2⟩ := h
  rcases h2 with ⟨hv, _⟩ | ⟨g', cap, cur, fz, hv, hb, hg, hf, hnc, hcm, hcs, ht⟩
  · cases hv
  · cases hv
    have hle : n * 3 ≤ c * 3 := Nat.mul_le_mul_right _ hnc
    have hc : ∀ j, j < 3 → cur[k * 3 + j]? = (oneA x).toList[j]? := fun j hj => by
      rw [← ones_get L k x hx j hj, ← ht, List.getElem?_take, if_pos (by omega), Array.getElem?_toList]
    refine ⟨by have := hc 0 (by decide); rw [cell_of_row w g _ _ _ _ hg]; exact this, by rw [cell_of_row w g _ _ _ _ hg]; exact hc 1 (by decide), by rw [cell_of_row w g _ _ _ _ hg]; exact hc 2 (by decide), ?_, fun a => ?_⟩
    · have := hf (k * 3 + 2) (by omega)
      simp only [World.frozen?, hg]
      simpa using this
    · have hls := ones_length (L.set k { x with age := a })
      rw [List.length_set] at hls
      refine ⟨by omega, .inr ⟨g, c, cur.setIfInBounds (k * 3 + 2) (.int .i64 a), fz, rfl, hb, ?_, ?_, hnc, hcm, by simpa using hcs, ?_⟩⟩
      · rw [setCell_eq_setRow w g _ cur _ fz _ hg]
        exact setRow_heap w g cur _ _ fz hg
      · intro i hi
        rw [Array.size_setIfInBounds] at hi
        exact hf i hi
      · refine List.ext_getElem? fun j => ?_
        rw [List.getElem?_take]
        by_cases hj : j < n * 3
        · rw [if_pos hj, Array.getElem?_toList, Array.getElem?_setIfInBounds]
          obtain ⟨y, r, hr, rfl⟩ : ∃ y r, r < 3 ∧ j = y * 3 + r := ⟨j / 3, j % 3, Nat.mod_lt _ (by decide), by omega⟩
          have hy : y < L.length := by omega
          have ho : cur[y * 3 + r]? = (ones L)[y * 3 + r]? := by rw [← ht, List.getElem?_take, if_pos hj, Array.getElem?_toList]
          by_cases hyk : y = k
          · subst hyk
            have e1 := ones_get (L.set y { x with age := a }) y { x with age := a } (by rw [List.getElem?_set_self hy]) r hr
            rw [e1]
            by_cases hr2 : r = 2
            · subst hr2
              rw [if_pos rfl, if_pos (by omega)]
              rfl
            · rw [if_neg (by omega), hc r hr]
              have : r = 0 ∨ r = 1 := by omega
              rcases this with rfl | rfl <;> rfl
          · obtain ⟨z, hz⟩ : ∃ z, L[y]? = some z := ⟨_, List.getElem?_eq_getElem hy⟩
            rw [if_neg (by omega), ho, ones_get L y z hz r hr, ones_get _ y z (by rw [List.getElem?_set_ne (fun e => hyk e.symm)]; exact hz) r hr]
        · rw [if_neg hj, List.getElem?_eq_none (by omega)]
end Cad
end Go.Proofs.Ytmkoiddfkanmiaa

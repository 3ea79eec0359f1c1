/- The document's schedule: where one is found, when one is due next; the lists that are held against each other. -/
import Derived.Test.YtmkoiddfkanmiaaDoorCadO
import Derived.Test.YtmkoiddfkanmiaaDoorCadE
namespace Go.Proofs.YtmkoiddfkanmiaaDoor
open Go.RowKit Bits Mem Sha
namespace Cad
/-- A row of entries, of whatever type: what is read of one, and its age stored. -/
theorem row_cellsE {w : World} {e : TypeId} {B g c n k : Nat} {L : List One} {x : One} (h : Ow w B e 3 (.slice (some ⟨g, 0, none⟩) n c) n (ones L)) (hn : L.length = n) (hx : L[k]? = some x) :
    w.cell? ⟨g, k * 3, none⟩ = some (.string ⟨x.id.toArray⟩) ∧ w.cell? ⟨g, k * 3 + 1, none⟩ = some (.int .i64 x.period) ∧ w.cell? ⟨g, k * 3 + 2, none⟩ = some (.int .i64 x.age) ∧ w.frozen? ⟨g, k * 3 + 2, none⟩ = false ∧
    ∀ a : Int, Ow (w.setCell ⟨g, k * 3 + 2, none⟩ (.int .i64 a)) B e 3 (.slice (some ⟨g, 0, none⟩) n c) n (ones (L.set k { x with age := a })) := by
  have hk := (List.getElem?_eq_some_iff.1 hx).1
  have hl := ones_length L
  obtain ⟨h1, h2⟩ := h
  rcases h2 with ⟨hv, _⟩ | ⟨g', cap, cur, fz, hv, hb, hg, hf, hnc, hcm, hcs, ht⟩
  · cases hv
  · cases hv
    have hle : n * 3 ≤ c * 3 := Nat.mul_le_mul_right _ hnc
    have hc : ∀ j, j < 3 → cur[k * 3 + j]? = (oneA x).toList[j]? := fun j hj => by
      rw [← ones_get L k x hx j hj, ← ht, List.getElem?_take, if_pos (by omega), Array.getElem?_toList]
    refine ⟨by have := hc 0 (by decide); rw [cell_of_row w g _ _ _ _ hg]; exact this, by rw [cell_of_row w g _ _ _ _ hg]; exact hc 1 (by decide), by rw [cell_of_row w g _ _ _ _ hg]; exact hc 2 (by decide), ?_, fun a => ?_⟩
    · have := hf (k * 3 + 2) (by omega)
      simp only [World.frozen?, hg]
      simpa using this
    · have hls := ones_length (L.set k { x with age := a })
      rw [List.length_set] at hls
      refine ⟨by omega, .inr ⟨g, c, cur.setIfInBounds (k * 3 + 2) (.int .i64 a), fz, rfl, hb, ?_, ?_, hnc, hcm, by simpa using hcs, ?_⟩⟩
      · rw [setCell_eq_setRow w g _ cur _ fz _ hg]
        exact setRow_heap w g cur _ _ fz hg
      · intro i hi
        rw [Array.size_setIfInBounds] at hi
        exact hf i hi
      · refine List.ext_getElem? fun j => ?_
        rw [List.getElem?_take]
        by_cases hj : j < n * 3
        · rw [if_pos hj, Array.getElem?_toList, Array.getElem?_setIfInBounds]
          obtain ⟨y, r, hr, rfl⟩ : ∃ y r, r < 3 ∧ j = y * 3 + r := ⟨j / 3, j % 3, Nat.mod_lt _ (by decide), by omega⟩
          have hy : y < L.length := by omega
          have ho : cur[y * 3 + r]? = (ones L)[y * 3 + r]? := by rw [← ht, List.getElem?_take, if_pos hj, Array.getElem?_toList]
          by_cases hyk : y = k
          · subst hyk
            have e1 := ones_get (L.set y { x with age := a }) y { x with age := a } (by rw [List.getElem?_set_self hy]) r hr
            rw [e1]
            by_cases hr2 : r = 2
            · subst hr2
              rw [if_pos rfl, if_pos (by omega)]
              rfl
            · rw [if_neg (by omega), hc r hr]
              have : r = 0 ∨ r = 1 := by omega
              rcases this with rfl | rfl <;> rfl
          · obtain ⟨z, hz⟩ : ∃ z, L[y]? = some z := ⟨_, List.getElem?_eq_getElem hy⟩
            rw [if_neg (by omega), ho, ones_get L y z hz r hr, ones_get _ y z (by rw [List.getElem?_set_ne (fun e => hyk e.symm)]; exact hz) r hr]
        · rw [if_neg hj, List.getElem?_eq_none (by omega)]
theorem cmpB_less : ∀ (a b : List UInt8), Op.bytesLess a b = decide (cmpB a b < 0)
  | [], [] => rfl
  | _ :: _, [] => rfl
  | [], _ :: _ => rfl
  | x :: a, y :: b => by
    have ih := cmpB_less a b
    unfold cmpB at ih ⊢
    unfold Op.bytesLess Lib.compareBytes
    by_cases h1 : x < y
    · rw [if_pos h1, decide_eq_true h1]; rfl
    · rw [if_neg h1]
      by_cases h2 : y < x
      · have : ¬ x = y := by intro e; subst e; exact h1 h2
        rw [if_pos h2, decide_eq_false h1, beq_eq_false_iff_ne.2 this]; rfl
      · have := u8eq h1 h2
        subst this
        rw [if_neg h2, decide_eq_false h1, ← ih]
        simp
/-- Where the document finds one. -/
def findD (L : List One) (id : List UInt8) : Int := if has L id then (place L id : Int) else -1
theorem findD_at {L : List One} (h : Srt L) {id : List UInt8} {k : Nat} {x : One} (hx : L[k]? = some x) (he : x.id = id) : findD L id = k ∧ has L id = true ∧ place L id = k := by
  subst he
  have hlt := (List.getElem?_eq_some_iff.1 hx).1
  have hs : Stands L x.id k := ⟨Nat.le_of_lt hlt, fun j y hj hy => h j k y x hj hy hx, fun j y hj hy => by
    rcases Nat.lt_or_eq_of_le hj with hl | rfl
    · have := h k j x y hl hx hy
      rw [cmpB_swap x.id y.id]
      omega
    · rw [hx] at hy; cases hy; rw [cmpB_self]; exact Int.le_refl _⟩
  have hp := hs.place_eq
  have hh : has L x.id = true := by
    unfold has foundAt
    rw [← hp, hx]
    simp [cmpB_self]
  exact ⟨by unfold findD; rw [if_pos hh, ← hp], hh, hp.symm⟩
theorem findD_none {L : List One} {id : List UInt8} (h : ∀ (k : Nat) (x : One), L[k]? = some x → ¬ x.id = id) : findD L id = -1 ∧ has L id = false := by
  have hh : has L id = false := by
    unfold has foundAt
    split
    · rename_i x hx
      refine decide_eq_false fun e => h _ x hx (cmpB_zero _ _ e)
    · rfl
  exact ⟨by unfold findD; rw [if_neg (by rw [hh]; decide)], hh⟩
set_option maxRecDepth 100000 in
set_option maxHeartbeats 2000000 in
/-- Same, of two lists that are the same. -/
theorem same_any (qa qb : Option Addr) (ca cb : Nat) (T : List (List UInt8)) (w : World) (ha : Rd w 1 (.slice qa T.length ca) T.length (strsC T)) (hb : Rd w 1 (.slice qb T.length cb) T.length (strsC T)) (hl : T.length ≤ 1000000) :
    Calls Tryd.prog 34 #[.slice qa T.length ca, .slice qb T.length cb] w fun e w' => e = .returned (.bool true) ∧ Below w.heap.size w w' := by
  have HA := Lib.hid ha
  have HB := Lib.hid hb
  clear ha hb
  go_enter Tryd.func34, Tryd.ntmps34
  go_wp2_with fail
  go_loopw [5] (fun iv wr => ∃ i : Nat, iv = .int .i64 i ∧ i ≤ T.length ∧ Hid (Below w.heap.size w wr)) (fun iv _ => T.length - (intOf iv).toNat)
  case atStart => exact ⟨0, rfl, Nat.zero_le _, Lib.hid (Below.refl _ _)⟩
  case round =>
    obtain ⟨i, rfl, hi, HK⟩ := hrel
    by_cases hlt : i < T.length
    · have hltI : (i : Int) < (T.length : Int) := by omega
      obtain ⟨x, hx⟩ : ∃ x, T[i]? = some x := ⟨_, List.getElem?_eq_getElem hlt⟩
      obtain ⟨ba, oa, rfl, hba, _, _, hca⟩ := Rd_lt (HA.out.below HK.out) (by omega)
      obtain ⟨bb, ob, rfl, hbb, _, _, hcb⟩ := Rd_lt (HB.out.below HK.out) (by omega)
      have hka := hca i _ (by unfold strsC; rw [List.getElem?_map, hx]; rfl)
      have hkb := hcb i _ (by unfold strsC; rw [List.getElem?_map, hx]; rfl)
      clear hca hcb hx
      go_wp2_with fail
      refine Rc.region (wr.heap.size) 9 [] [] (by kernel_rfl) (Nat.le_refl _) (by kernel_rfl) ?_; intro p; simp only [List.take, List.drop]
      iterate 9 (refine Rc.rK rfl rfl ?_; intro K hK; apply Exists.intro; refine ⟨?_, ?_⟩; (focus (intro x hx; have e1 := Rc.cell_le hx hba hka; have e2 := Rc.cell_le hx hbb hkb; go_simp; (first | (fail) | ((try go_bits); (try go_simp); (try rfl))))); go_simp; refine hK _ ?_; clear hK K)
      refine Rc.done fun wz Fs hx hle hg => ?_
      have HKZ := Lib.hid (HK.out.trans ((Rc.undrew hx).mono HK.out.size))
      clear hx hle hg
      go_wp2_with fail
      refine NoPanic.normal ?_
      go_wp2_with fail
      exact ⟨⟨i + 1, by go_num, by omega, HKZ⟩, by simp [intOf]; omega⟩
    · have hltI : ¬ (i : Int) < (T.length : Int) := by omega
      go_wp2_with fail
      go_ret
      exact ⟨rfl, HK.out⟩
end Cad
end Go.Proofs.YtmkoiddfkanmiaaDoor

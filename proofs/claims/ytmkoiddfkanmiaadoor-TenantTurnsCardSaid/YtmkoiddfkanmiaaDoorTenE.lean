/- The walks of a table's Room and free. -/
import Derived.Test.YtmkoiddfkanmiaaDoorTenD
namespace Go.Proofs.YtmkoiddfkanmiaaDoor
open Go.RowKit Bits Mem Sha Cad
namespace Ten
set_option maxRecDepth 100000 in
set_option maxHeartbeats 2000000 in
theorem roomT_any (sb base : Nat) (q : Option Addr) (c : Nat) (pl : Int) (L : List Ten) (w : World) (h : TabAt w sb base q c pl L) (hl : L.length ≤ 1000000) (hp1 : 1 ≤ pl) (hp2 : pl ≤ 8) :
    Calls Tryd.prog 15 #[.pointer (some ⟨sb, 0, none⟩)] w fun e w' => e = .returned (.int .i64 (pl - (idsT L 1).length - (idsT L 2).length)) ∧ Below w.heap.size w w' := by
  have HH := Lib.hid h
  obtain ⟨c0, c1, _, _⟩ := h.cells
  have hsl := h.lt
  have l1 := idsT_len L 1
  have l2 := idsT_len L 2
  obtain ⟨n1, hn1⟩ : ∃ n1, n1 = (idsT L 1).length := ⟨_, rfl⟩
  obtain ⟨n2, hn2⟩ : ∃ n2, n2 = (idsT L 2).length := ⟨_, rfl⟩
  rw [← hn1] at l1
  rw [← hn2] at l2
  have HN1 := Lib.hid hn1
  have HN2 := Lib.hid hn2
  clear h hn1 hn2
  go_enter Tryd.func15, Tryd.ntmps15
  go_wp2_with fail
  refine Rc.region (w.heap.size) 12 [Rc.F 5 (fun p => .slice p.q n1 p.c) (fun _ _ _ => True), Rc.F 9 (fun p => .slice p.q n2 p.c) (fun _ _ _ => True)] [] (by kernel_rfl) (Nat.le_refl _) (by kernel_rfl) ?_; intro p; simp only [List.take, List.drop]
  iterate 5 (refine Rc.rK rfl rfl ?_; intro K hK; apply Exists.intro; refine ⟨?_, ?_⟩; (focus (intro x hx; have e1 := Rc.cell_le hx hsl c0; go_simp; (first | (fail) | ((try go_bits); (try go_simp); (try rfl))))); go_simp; refine hK _ ?_; clear hK K)
  refine Rc.fK rfl rfl rfl rfl ?_ ?_
  · intro x Fs hx hle hg K hK
    have hh := HH.out.below (Rc.undrew hx)
    go_wp2_with fail
    refine (idsT_any sb base q c pl L 1 x hh hl).mono ?_
    rintro e x' ⟨qo, co, rfl, _, hb⟩
    rw [← HN1.out]
    go_wp2_with fail
    exact hK ⟨qo, co, undef⟩ x' hb (fun _ _ _ _ => trivial)
  intro K hK; go_simp; refine hK _ ?_; clear hK K
  iterate 3 (refine Rc.rK rfl rfl ?_; intro K hK; apply Exists.intro; refine ⟨?_, ?_⟩; (focus (intro x hx;  go_simp; (first | (fail) | ((try go_bits); (try go_simp); (try rfl))))); go_simp; refine hK _ ?_; clear hK K)
  refine Rc.fK rfl rfl rfl rfl ?_ ?_
  · intro x Fs hx hle hg K hK
    have hh := HH.out.below (Rc.undrew hx)
    go_wp2_with fail
    refine (idsT_any sb base q c pl L 2 x hh hl).mono ?_
    rintro e x' ⟨qo, co, rfl, _, hb⟩
    rw [← HN2.out]
    go_wp2_with fail
    exact hK ⟨qo, co, undef⟩ x' hb (fun _ _ _ _ => trivial)
  intro K hK; go_simp; refine hK _ ?_; clear hK K
  iterate 2 (refine Rc.rK rfl rfl ?_; intro K hK; apply Exists.intro; refine ⟨?_, ?_⟩; (focus (intro x hx;  go_simp; (first | (fail) | ((try go_bits); (try go_simp); (try rfl))))); go_simp; refine hK _ ?_; clear hK K)
  refine Rc.done fun wz Fs hx hle hg => ?_
  have HBZ := Lib.hid (Rc.undrew hx)
  clear hx hle hg
  go_wp2_with fail
  refine NoPanic.normal ?_
  go_wp2_with fail
  go_ret
  exact ⟨by rw [← HN1.out, ← HN2.out]; rfl, HBZ.out⟩
/-- Which places are taken. -/
def usedT (L : List Ten) (n : Nat) : List Bool := (List.range n).map fun (p : Nat) => L.any fun x => decide (¬ x.state = 3 ∧ x.place = (p : Int))
/-- The first that is not. -/
def firstFree (U : List Bool) : Int := match U.findIdx? (fun u => !u) with
  | some k => (k : Int)
  | none => -1
theorem firstFree_some {U : List Bool} {k : Nat} (h : U[k]? = some false) (hk : ∀ j, j < k → U[j]? = some true) : firstFree U = k := by
  unfold firstFree
  have : U.findIdx? (fun u => !u) = some k := by
    rw [List.findIdx?_eq_some_iff_getElem]
    obtain ⟨hlk, hge⟩ := List.getElem?_eq_some_iff.1 h
    refine ⟨hlk, by rw [hge]; rfl, fun j hj => ?_⟩
    obtain ⟨hlj, hgj⟩ := List.getElem?_eq_some_iff.1 (hk j hj)
    rw [hgj]
    decide
  rw [this]
theorem firstFree_none {U : List Bool} (hk : ∀ j, j < U.length → U[j]? = some true) : firstFree U = -1 := by
  unfold firstFree
  have : U.findIdx? (fun u => !u) = none := by
    rw [List.findIdx?_eq_none_iff]
    intro x hx
    obtain ⟨j, hj⟩ := List.mem_iff_getElem?.1 hx
    have hjl := (List.getElem?_eq_some_iff.1 hj).1
    rw [hk j hjl] at hj
    cases hj
    rfl
  rw [this]
theorem usedT_at (L : List Ten) (n p : Nat) (hp : p < n) : (usedT L n)[p]? = some (L.any fun x => decide (¬ x.state = 3 ∧ x.place = (p : Int))) := by
  unfold usedT
  rw [List.getElem?_map, List.getElem?_range hp]
  rfl
theorem usedT_length (L : List Ten) (n : Nat) : (usedT L n).length = n := by simp [usedT]
theorem usedT_succ {L : List Ten} {k : Nat} {x : Ten} (hx : L[k]? = some x) (n : Nat) : (x.state = 3 → usedT (L.take (k + 1)) n = usedT (L.take k) n) ∧ (¬ x.state = 3 → ∀ p : Nat, p < n → x.place = (p : Int) → usedT (L.take (k + 1)) n = (usedT (L.take k) n).set p true) := by
  have ht : L.take (k + 1) = L.take k ++ [x] := by rw [List.take_add_one, hx]; rfl
  refine ⟨fun h3 => ?_, fun h3 p hp hxp => ?_⟩
  · unfold usedT
    rw [ht]
    apply List.map_congr_left
    intro a _
    rw [List.any_append]
    simp [h3]
  · apply List.ext_getElem?
    intro i
    rw [List.getElem?_set]
    by_cases hi : i < n
    · rw [usedT_at _ n i hi, ht, List.any_append]
      by_cases hpi : p = i
      · subst hpi
        rw [if_pos rfl, if_pos (by rw [usedT_length]; exact hp)]
        simp [h3, hxp]
      · rw [if_neg hpi, usedT_at _ n i hi]
        congr 1
        have : ¬ x.place = (i : Int) := by omega
        simp [this]
    · rw [List.getElem?_eq_none (by rw [usedT_length]; omega), if_neg (by omega), List.getElem?_eq_none (by rw [usedT_length]; omega)]
def boolsC (U : List Bool) : List Value := U.map .bool
set_option maxRecDepth 100000 in
set_option maxHeartbeats 2000000 in
theorem index_any (b n c : Nat) (U : List Bool) (w : World) (hU : Rd w 1 (.slice (some ⟨b, 0, none⟩) n c) n (boolsC U)) (hn : U.length = n) (hl : n ≤ 1000) :
    Calls Tryd.prog 64 #[.slice (some ⟨b, 0, none⟩) n c, .bool false] w fun e w' => e = .returned (.int .i64 (firstFree U)) ∧ w' = w := by
  have HU := Lib.hid hU
  have HN := Lib.hid hn
  clear hU hn
  go_enter Tryd.func64, Tryd.ntmps64
  go_wp2_with fail
  go_loopw [8] (fun iv wr => ∃ k : Nat, k ≤ n ∧ iv = .int .i64 k ∧ wr = w ∧ Hid (∀ j, j < k → U[j]? = some true)) (fun iv _ => n - (intOf iv).toNat)
  case atStart => exact ⟨0, Nat.zero_le _, rfl, rfl, Lib.hid (fun j h => by omega)⟩
  case round =>
    obtain ⟨k, hk, rfl, rfl, HK⟩ := hrel
    by_cases hlt : k < n
    · have hltI : (k : Int) < (n : Int) := by omega
      obtain ⟨u, hu⟩ : ∃ u, U[k]? = some u := ⟨_, List.getElem?_eq_getElem (by rw [HN.out]; exact hlt)⟩
      obtain ⟨b', o', he, hb, _, _, hc⟩ := Rd_lt HU.out (by omega)
      cases he
      have hck := hc k (.bool u) (by unfold boolsC; rw [List.getElem?_map, hu]; rfl)
      rw [Nat.zero_add] at hck
      have HUK := Lib.hid hu
      clear hc hu
      cases u with
      | false =>
        have HV := Lib.hid (firstFree_some HUK.out HK.out)
        go_wp2_with fail
        go_ret
        exact ⟨by rw [HV.out]; rfl, rfl⟩
      | true =>
        go_wp2_with fail
        refine ⟨⟨k + 1, by omega, by go_num, trivial, Lib.hid (fun j hj => ?_)⟩, by simp [intOf]; omega⟩
        by_cases hjk : j = k
        · subst hjk; exact HUK.out
        · exact HK.out j (by omega)
    · have hltI : ¬ (k : Int) < (n : Int) := by omega
      have HV : Hid (firstFree U = -1) := Lib.hid (firstFree_none (fun j hj => HK.out j (by have := HN.out; omega)))
      go_wp2_with fail
      go_ret
      exact ⟨by rw [HV.out]; rfl, rfl⟩
theorem infoBool : (Tryd.prog.info? 4).map (fun i => (i.zero, i.size, i.bytes)) = some (some (.bool false), 1, 1) := by kernel_rfl
set_option maxRecDepth 100000 in
set_option maxHeartbeats 2000000 in
theorem freeT_walk (sb base : Nat) (q : Option Addr) (c n : Nat) (L : List Ten) (w : World) (h : TabAt w sb base q c n L) (hl : L.length ≤ 1000000) (hp1 : 1 ≤ n) (hp2 : n ≤ 8) (hpl : ∀ x ∈ L, ¬ x.state = 3 → 0 ≤ x.place ∧ x.place < n) :
    Calls Tryd.prog 55 #[.pointer (some ⟨sb, 0, none⟩)] w fun e w' => e = .returned (.int .i64 (firstFree (usedT L n))) ∧ Below w.heap.size w w' := by
  have HH := Lib.hid h
  have HP := Lib.hid hpl
  obtain ⟨c0, c1, _, _⟩ := h.cells
  have hsl := h.lt
  clear h hpl
  go_enter Tryd.func55, Tryd.ntmps55
  go_wp2_with fail
  obtain ⟨i0, hi0, hz0, hz1, hz2⟩ := parts3M infoBool
  obtain ⟨wm, hrm, hown, hgr⟩ := run_makeSlice_full (P := Tryd.prog) w w.heap.size 145 4 i0 (.bool false) 1 Tryd.underlying145 hi0 hz0 hz1 .i64 .i64 n (by omega) (by rw [hz2]; omega) (by unfold maxLen; omega) (Nat.le_refl _)
  rw [hrm]
  have hbm : Below w.heap.size w wm := (Kp.of_grown hgr).below (Nat.le_refl _) (fun k hk => by cases hk)
  have hu0 : (madeCells (Value.bool false).cells (n * 1)).toList = boolsC (usedT (L.take 0) n) := by
    apply List.ext_getElem?
    intro i
    by_cases hi : i < n
    · unfold boolsC
      rw [List.getElem?_map, usedT_at _ n i hi]
      simp [madeCells, Value.cells, hi, Nat.mod_one]
    · rw [List.getElem?_eq_none (by rw [Array.length_toList, size_madeCells]; omega), List.getElem?_eq_none (by simp [boolsC, usedT]; omega)]
  rw [hu0] at hown
  obtain ⟨s, hs⟩ : ∃ s, s = w.heap.size := ⟨_, rfl⟩
  have HO0 := Lib.hid (Ow.of_own hown)
  have HB0 := Lib.hid hbm
  have HM := Lib.hid (HH.out.below hbm)
  obtain ⟨c0, c1, _, _⟩ := HM.out.cells
  rw [← hs] at HO0
  rw [← hs]
  have HS := Lib.hid hs
  clear hrm hown hgr hbm hu0 hs
  go_wp2_with fail
  go_loopw [16] (fun iv wr => ∃ k : Nat, k ≤ L.length ∧ iv = .int .i64 k ∧ Hid (Ow wr s 4 1 (.slice (some ⟨s, 0, none⟩) n n) n (boolsC (usedT (L.take k) n))) ∧ Hid (Below w.heap.size w wr)) (fun iv _ => L.length - (intOf iv).toNat)
  case atStart => exact ⟨0, Nat.zero_le _, rfl, HO0, HB0⟩
  case round =>
    obtain ⟨k, hk, rfl, HO, HB⟩ := hrel
    by_cases hlt : k < L.length
    · have hltI : (k : Int) < (L.length : Int) := by omega
      obtain ⟨x, hx⟩ : ∃ x, L[k]? = some x := ⟨_, List.getElem?_eq_getElem hlt⟩
      obtain ⟨g, rfl⟩ := HH.out.2.2.some_of_lt (by omega)
      have HSX := Lib.hid (HH.out.below HB.out)
      have hld := ten_load (Rd.of_ow HSX.out.2.2) hx
      rw [Nat.zero_add] at hld
      have HLD := Lib.hid hld
      have HT := Lib.hid (usedT_succ hx n)
      have HXP := Lib.hid (HP.out x (List.mem_of_getElem? hx))
      obtain ⟨xi, xs, xp, xd⟩ := x
      clear hx hld
      unfold tenA at HLD
      obtain ⟨wl, hwl⟩ : ∃ wl, wl = wr.alloc (.cells #[.string ⟨xi.toArray⟩, .int .i64 xs, .int .i64 xp, .pointer xd] 111) := ⟨_, rfl⟩
      have hbl : Below wr.heap.size wr wl := by rw [hwl]; exact (Below.refl wr.heap.size wr).alloc (Nat.le_refl _) _
      have HOL := Lib.hid (HO.out.below hbl)
      have HBL := Lib.hid (HB.out.trans (hbl.mono HB.out.size))
      have HWL := Lib.hid hwl
      clear hbl hwl
      by_cases h3 : xs = 3
      · have HE : Hid (usedT (L.take (k + 1)) n = usedT (L.take k) n) := Lib.hid (HT.out.1 h3)
        subst h3
        go_wp2_with (refine l_load rfl _ _ rfl _ HLD.out ?_)
        rw [← HWL.out]
        exact ⟨⟨k + 1, by omega, by go_num, by rw [HE.out]; exact HOL, HBL⟩, by simp [intOf]; omega⟩
      · obtain ⟨hx0, hx1⟩ := HXP.out h3
        obtain ⟨p, rfl⟩ : ∃ p : Nat, xp = (p : Int) := ⟨xp.toNat, by show xp = _; have : 0 ≤ xp := hx0; omega⟩
        have hpn : (p : Int) < (n : Int) := hx1
        have hpn' : p < n := by omega
        have HE : Hid (usedT (L.take (k + 1)) n = (usedT (L.take k) n).set p true) := Lib.hid (HT.out.2 h3 p hpn' rfl)
        have h3B : (xs == 3) = false := by rw [beq_eq_false_iff_ne]; exact h3
        have hcf := HOL.out.cells p (by omega)
        obtain ⟨u, hu⟩ := Option.isSome_iff_exists.1 hcf.1
        have hff := hcf.2
        have ho := HOL.out.set (.bool true) (j := p) (by omega)
        have hbe : (boolsC (usedT (L.take k) n)).set p (.bool true) = boolsC (usedT (L.take (k + 1)) n) := by rw [HE.out]; unfold boolsC; rw [List.map_set]
        rw [hbe] at ho
        obtain ⟨w3, hw3⟩ : ∃ w3, w3 = wl.setCell ⟨s, p, none⟩ (.bool true) := ⟨_, rfl⟩
        have hg3 : wl.grownBy w3 (some s) := by rw [hw3]; exact grown_setCell _ _ _ _
        rw [← hw3] at ho
        have HO3 := Lib.hid ho
        have HB3 : Hid (Below w.heap.size w w3) := Lib.hid (HBL.out.grown hg3 HBL.out.size (fun k hk => by cases hk; rw [HS.out]; exact Nat.le_refl _))
        have HW3 := Lib.hid hw3
        rw [HWL.out] at hu hff
        clear hcf ho hbe hg3 hw3 h3 hx0 hx1
        go_wp2_with (first | (refine l_load rfl _ _ rfl _ HLD.out ?_))
        rw [← HWL.out, ← HW3.out]
        exact ⟨⟨k + 1, by omega, by go_num, HO3, HB3⟩, by simp [intOf]; omega⟩
    · have hltI : ¬ (k : Int) < (L.length : Int) := by omega
      obtain rfl : k = L.length := by omega
      have ho := HO.out
      rw [List.take_length] at ho
      have HX := Lib.hid (index_any s n n (usedT L n) wr (Rd.of_ow ho) (usedT_length _ _) (by omega))
      obtain ⟨r, hr⟩ : ∃ r, r = firstFree (usedT L n) := ⟨_, rfl⟩
      have HR := Lib.hid hr
      clear ho hr
      go_wp2_with fail
      refine HX.out.mono ?_
      rintro e w5 ⟨rfl, hw⟩
      rw [← HR.out]
      obtain rfl : wr = w5 := hw.symm
      clear hw
      go_wp2_with fail
      go_ret
      exact ⟨by rw [← HR.out]; rfl, HB.out⟩
end Ten
end Go.Proofs.YtmkoiddfkanmiaaDoor

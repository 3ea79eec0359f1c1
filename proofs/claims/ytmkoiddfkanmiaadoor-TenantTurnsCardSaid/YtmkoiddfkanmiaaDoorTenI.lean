/- The walks of custumallaw22.tables and TenantNil. -/
import Derived.Test.YtmkoiddfkanmiaaDoorTenH
namespace Go.Proofs.YtmkoiddfkanmiaaDoor
open Go.RowKit Bits Mem Sha Cad
namespace Mem
theorem l_buildT {P : Program} {ops : Array Oper} {Q : Exit → Act → World → Prop} {a : Act} {w : World} {o : Oper} {rest : List Oper} (hg : o.guard = none) (t : TypeId) (parts : Array (Nat × Operand)) (ho : o.op = .build t parts) (cs : Array Value)
    (hb : P.built t (parts.map fun (i, x) => (i, a.eval x)).toList = some cs)
    (h : wpList P ops Q rest (a.put o.dst (.agg cs)) w) : wpList P ops Q (o :: rest) a w :=
  wpList_plain hg fun K hK => by
    unfold Oper.wp execOp
    simp only [ho, Sem.run_bind, run_build w t _ cs hb, Result.andThen_ok, Sem.run_pure]
    exact hK _ _ h
theorem Rd_of_rowT {w : World} {g n : Nat} {l : List UInt8} {t : TypeId} {f : Nat × Nat} (h : w.heap[g]? = some (.cells (bysA l) t f)) (hn : l.length = n) (hm : n ≤ maxLen) : Rd w 1 (.slice (some ⟨g, 0, none⟩) n n) n (bys l) := by
  subst hn
  refine ⟨by rw [bys_length]; omega, .inr ⟨g, 0, l.length, rfl, lt_of_heap h, Nat.le_refl _, hm, fun j u hu => ?_⟩⟩
  rw [Nat.zero_add, cell_of_row w g j _ _ _ h]
  simpa [bysA] using hu
theorem below_kp {w x y : World} {C : Nat → Prop} (h : Below w.heap.size w x) (k : Kp C x y) (hC : ∀ j, C j → w.heap.size ≤ j) : Below w.heap.size w y :=
  ⟨k.os.trans h.os, k.tape.trans h.tape, k.output.trans h.output, Nat.le_trans h.size k.size, fun j hj => (k.block j (Nat.lt_of_lt_of_le hj h.size) (fun hc => by have := hC j hc; omega)).trans (h.block j hj)⟩
end Mem
namespace Ten
def K0 : List UInt8 := List.replicate 64 0
theorem keys0 : Tryd.prog.built 44 [] = some (bysA K0) := by kernel_rfl
theorem tab_a (d : Option Addr) : makeT [] [97] d 1 = ((0, 0), [⟨[97], 1, 0, d⟩]) := rfl
theorem tab_b (d e : Option Addr) : makeT [⟨[97], 1, 0, d⟩] [98] e 1 = ((0, 7), [⟨[97], 1, 0, d⟩]) := rfl
theorem tab_d (d : Option Addr) : delT [⟨[97], 1, 0, d⟩] [97] = ((0, 0), [⟨[97], 3, 0, none⟩]) := rfl
theorem tab_c (d : Option Addr) : makeT [⟨[97], 3, 0, none⟩] [97] d 1 = ((0, 9), [⟨[97], 3, 0, none⟩]) := rfl
theorem srt_nilT : Srt (([] : List Ten).map core) := by intro i j x y _ hx; simp at hx
theorem srt_one (x : Ten) : Srt ([x].map core) := by
  intro i j x y hij hx hy
  have := (List.getElem?_eq_some_iff.1 hy).1
  simp at this
  omega
theorem pl_nil (n : Nat) : ∀ x ∈ ([] : List Ten), ¬ x.state = 3 → 0 ≤ x.place ∧ x.place < (n : Int) := by intro x hx; simp at hx
theorem pl_one (x : Ten) (h : 0 ≤ x.place ∧ x.place < ((1 : Nat) : Int)) : ∀ y ∈ [x], ¬ y.state = 3 → 0 ≤ y.place ∧ y.place < ((1 : Nat) : Int) := by intro y hy; simp at hy; subst hy; intro _; exact h
set_option maxRecDepth 100000 in
set_option maxHeartbeats 1000000 in
theorem tables_any (w : World) (hS : Sha.Tabs w) : Calls Tryd.prog 14 #[] w fun e w' => e = .returned (.bool true) ∧ Below w.heap.size w w' := by
  have HS := Lib.hid hS
  clear hS
  go_enter Tryd.func14, Tryd.ntmps14
  go_wp2_with fail
  refine (newTab_any 1 (by decide) (by decide) w).mono ?_
  rintro e w1 ⟨rfl, hw⟩
  obtain ⟨sb, hsb⟩ : ∃ sb, sb = w.heap.size := ⟨_, rfl⟩
  have hs1 : w1.heap.size = sb + 1 := by rw [hw, hsb]; exact Array.size_push _
  have HBW : Hid (Below w.heap.size w w1) := Lib.hid (by rw [hw]; exact (Below.refl _ _).alloc (Nat.le_refl _) _)
  have HTT : Hid (TabAt w1 sb (sb + 1) none 0 (1 : Nat) []) := Lib.hid ⟨by rw [hw, hsb]; exact heap_alloc_new w _, by omega, Ow.nil _ _ _ _⟩
  have HSB := Lib.hid hsb
  have HSW : Hid (sb + 1 ≤ w1.heap.size) := Lib.hid (by omega)
  rw [← hsb]
  clear hw hsb hs1
  go_wp2_with (refine conv_markT rfl 24 _ rfl 5 Tryd.underlying24 Tryd.underlying5 _ 1 1 rfl #[.int .u8 97] (heap_alloc_new _ _) ?_; go_must (intro wm hrm hgm); go_must (refine Hid.out ?_))
  refine Lib.hid ?_
  have hbm : Below w1.heap.size w1 wm := ⟨hgm.os, hgm.tape, hgm.output, Nat.le_trans (Nat.le_of_lt (Array.getElem?_eq_some_iff.1 (heap_alloc_new w1 (.cells #[.int .u8 97] 5))).1) hgm.size, fun j hj => (hgm.block j (Nat.lt_trans hj (Array.getElem?_eq_some_iff.1 (heap_alloc_new w1 (.cells #[.int .u8 97] 5))).1) (fun e => by cases e; omega)).trans (Rg.heap_alloc_past w1 _ j hj)⟩
  have HRM : Hid (Rd wm 1 (.slice (some ⟨w1.heap.size, 0, none⟩) 1 1) 1 (bys [97])) := Lib.hid (Rd_of_rowT (l := [97]) hrm rfl (by decide))
  have HBM := Lib.hid hbm
  clear hbm hrm hgm
  go_wp2_with (refine l_buildT rfl 44 _ rfl (bysA K0) keys0 ?_)
  refine (limits_any wm).mono ?_
  rintro e wn ⟨rfl, hb⟩
  have HBN : Hid (Below w1.heap.size w1 wn) := Lib.hid (HBM.out.trans (hb.mono HBM.out.size))
  have HRN := Lib.hid (HRM.out.below hb)
  clear hb HBM HRM
  have HCR := Lib.hid (createT_any sb (sb + 1) none 0 1 [] (some ⟨w1.heap.size, 0, none⟩) 1 [97] K0 wn (HS.out.below (HBW.out.trans (HBN.out.mono HBW.out.size))) rfl (HTT.out.below HBN.out) (by simp) srt_nilT HRN.out (fun k hk he => by cases hk; exact absurd (HTT.out.2.2.lt _ he).2 (Nat.lt_irrefl _)) (Nat.le_trans HSW.out HBN.out.size) (by decide) (by decide) (pl_nil 1))
  go_wp2_with fail
  refine HCR.out.mono ?_
  rintro e w2 ⟨d2, q2, c2, rfl, hT, hkp, hgz⟩
  rw [tab_a] at hT ⊢
  have HSO : Hid (sb + 1 ≤ w2.heap.size) := Lib.hid (Nat.le_trans HSW.out (Nat.le_trans HBN.out.size hkp.size))
  have HBO : Hid (Below w.heap.size w w2) := Lib.hid (below_kp (HBW.out.trans (HBN.out.mono HBW.out.size)) hkp (fun j hj => by
    rcases hj with rfl | hj
    · rw [HSB.out]; exact Nat.le_refl _
    · have := (HTT.out.2.2.lt _ hj).1; rw [← HSB.out]; omega))
  have HTO := Lib.hid hT
  clear hT hkp hgz HCR HRN HBN HTT HBW HSW
  have HTT := HTO
  have HBW := HBO
  have HSW := HSO
  clear HTO HBO HSO
  go_wp2_with (refine conv_markT rfl 24 _ rfl 5 Tryd.underlying24 Tryd.underlying5 _ 1 1 rfl #[.int .u8 98] (heap_alloc_new _ _) ?_; go_must (intro wm hrm hgm); go_must (refine Hid.out ?_))
  refine Lib.hid ?_
  have hbm : Below w2.heap.size w2 wm := ⟨hgm.os, hgm.tape, hgm.output, Nat.le_trans (Nat.le_of_lt (Array.getElem?_eq_some_iff.1 (heap_alloc_new w2 (.cells #[.int .u8 98] 5))).1) hgm.size, fun j hj => (hgm.block j (Nat.lt_trans hj (Array.getElem?_eq_some_iff.1 (heap_alloc_new w2 (.cells #[.int .u8 98] 5))).1) (fun e => by cases e; omega)).trans (Rg.heap_alloc_past w2 _ j hj)⟩
  have HRM : Hid (Rd wm 1 (.slice (some ⟨w2.heap.size, 0, none⟩) 1 1) 1 (bys [98])) := Lib.hid (Rd_of_rowT (l := [98]) hrm rfl (by decide))
  have HBM := Lib.hid hbm
  clear hbm hrm hgm
  go_wp2_with (refine l_buildT rfl 44 _ rfl (bysA K0) keys0 ?_)
  refine (limits_any wm).mono ?_
  rintro e wn ⟨rfl, hb⟩
  have HBN : Hid (Below w2.heap.size w2 wn) := Lib.hid (HBM.out.trans (hb.mono HBM.out.size))
  have HRN := Lib.hid (HRM.out.below hb)
  clear hb HBM HRM
  have HCR := Lib.hid (createT_any sb (sb + 1) q2 c2 1 [⟨[97], 1, 0, some ⟨d2, 0, none⟩⟩] (some ⟨w2.heap.size, 0, none⟩) 1 [98] K0 wn (HS.out.below (HBW.out.trans (HBN.out.mono HBW.out.size))) rfl (HTT.out.below HBN.out) (by simp) (srt_one _) HRN.out (fun k hk he => by cases hk; exact absurd (HTT.out.2.2.lt _ he).2 (Nat.lt_irrefl _)) (Nat.le_trans HSW.out HBN.out.size) (by decide) (by decide) (pl_one _ ⟨by simp, by simp⟩))
  go_wp2_with fail
  refine HCR.out.mono ?_
  rintro e w3 ⟨d3, q3, c3, rfl, hT, hkp, hgz⟩
  rw [tab_b] at hT ⊢
  have HSO : Hid (sb + 1 ≤ w3.heap.size) := Lib.hid (Nat.le_trans HSW.out (Nat.le_trans HBN.out.size hkp.size))
  have HBO : Hid (Below w.heap.size w w3) := Lib.hid (below_kp (HBW.out.trans (HBN.out.mono HBW.out.size)) hkp (fun j hj => by
    rcases hj with rfl | hj
    · rw [HSB.out]; exact Nat.le_refl _
    · have := (HTT.out.2.2.lt _ hj).1; rw [← HSB.out]; omega))
  have HTO := Lib.hid hT
  clear hT hkp hgz HCR HRN HBN HTT HBW HSW
  have HTT := HTO
  have HBW := HBO
  have HSW := HSO
  clear HTO HBO HSO
  go_wp2_with (refine conv_markT rfl 24 _ rfl 5 Tryd.underlying24 Tryd.underlying5 _ 1 1 rfl #[.int .u8 97] (heap_alloc_new _ _) ?_; go_must (intro wm hrm hgm); go_must (refine Hid.out ?_))
  refine Lib.hid ?_
  have hbm : Below w3.heap.size w3 wm := ⟨hgm.os, hgm.tape, hgm.output, Nat.le_trans (Nat.le_of_lt (Array.getElem?_eq_some_iff.1 (heap_alloc_new w3 (.cells #[.int .u8 97] 5))).1) hgm.size, fun j hj => (hgm.block j (Nat.lt_trans hj (Array.getElem?_eq_some_iff.1 (heap_alloc_new w3 (.cells #[.int .u8 97] 5))).1) (fun e => by cases e; omega)).trans (Rg.heap_alloc_past w3 _ j hj)⟩
  have HRM : Hid (Rd wm 1 (.slice (some ⟨w3.heap.size, 0, none⟩) 1 1) 1 (bys [97])) := Lib.hid (Rd_of_rowT (l := [97]) hrm rfl (by decide))
  have HBM := Lib.hid hbm
  clear hbm hrm hgm
  have HDE := Lib.hid (delT_any sb (sb + 1) q3 c3 ((1 : Nat) : Int) [⟨[97], 1, 0, some ⟨d2, 0, none⟩⟩] (some ⟨w3.heap.size, 0, none⟩) 1 [97] wm (HTT.out.below HBM.out) (by simp) (srt_one _) HRM.out)
  go_wp2_with fail
  refine HDE.out.mono ?_
  rintro e w4 ⟨rfl, hT, hkp⟩
  rw [tab_d] at hT ⊢
  have HB4 : Hid (Below w.heap.size w w4) := Lib.hid (below_kp (HBW.out.trans (HBM.out.mono HBW.out.size)) hkp (fun j hj => by
    rcases hj with rfl | hj
    · rw [HSB.out]; exact Nat.le_refl _
    · have := (HTT.out.2.2.lt _ hj).1; rw [← HSB.out]; omega))
  have HS4 : Hid (sb + 1 ≤ w4.heap.size) := Lib.hid (Nat.le_trans HSW.out (Nat.le_trans HBM.out.size hkp.size))
  have HT4 := Lib.hid hT
  clear hT hkp HDE HRM HBM HTT HBW HSW
  have HTT := HT4
  have HBW := HB4
  have HSW := HS4
  clear HT4 HB4 HS4
  go_wp2_with (refine conv_markT rfl 24 _ rfl 5 Tryd.underlying24 Tryd.underlying5 _ 1 1 rfl #[.int .u8 97] (heap_alloc_new _ _) ?_; go_must (intro wm hrm hgm); go_must (refine Hid.out ?_))
  refine Lib.hid ?_
  have hbm : Below w4.heap.size w4 wm := ⟨hgm.os, hgm.tape, hgm.output, Nat.le_trans (Nat.le_of_lt (Array.getElem?_eq_some_iff.1 (heap_alloc_new w4 (.cells #[.int .u8 97] 5))).1) hgm.size, fun j hj => (hgm.block j (Nat.lt_trans hj (Array.getElem?_eq_some_iff.1 (heap_alloc_new w4 (.cells #[.int .u8 97] 5))).1) (fun e => by cases e; omega)).trans (Rg.heap_alloc_past w4 _ j hj)⟩
  have HRM : Hid (Rd wm 1 (.slice (some ⟨w4.heap.size, 0, none⟩) 1 1) 1 (bys [97])) := Lib.hid (Rd_of_rowT (l := [97]) hrm rfl (by decide))
  have HBM := Lib.hid hbm
  clear hbm hrm hgm
  go_wp2_with (refine l_buildT rfl 44 _ rfl (bysA K0) keys0 ?_)
  refine (limits_any wm).mono ?_
  rintro e wn ⟨rfl, hb⟩
  have HBN : Hid (Below w4.heap.size w4 wn) := Lib.hid (HBM.out.trans (hb.mono HBM.out.size))
  have HRN := Lib.hid (HRM.out.below hb)
  clear hb HBM HRM
  have HCR := Lib.hid (createT_any sb (sb + 1) q3 c3 1 [⟨[97], 3, 0, none⟩] (some ⟨w4.heap.size, 0, none⟩) 1 [97] K0 wn (HS.out.below (HBW.out.trans (HBN.out.mono HBW.out.size))) rfl (HTT.out.below HBN.out) (by simp) (srt_one _) HRN.out (fun k hk he => by cases hk; exact absurd (HTT.out.2.2.lt _ he).2 (Nat.lt_irrefl _)) (Nat.le_trans HSW.out HBN.out.size) (by decide) (by decide) (pl_one _ ⟨by simp, by simp⟩))
  go_wp2_with fail
  refine HCR.out.mono ?_
  rintro e w5 ⟨d5, q5, c5, rfl, hT, hkp, hgz⟩
  rw [tab_c] at hT ⊢
  have HSO : Hid (sb + 1 ≤ w5.heap.size) := Lib.hid (Nat.le_trans HSW.out (Nat.le_trans HBN.out.size hkp.size))
  have HBO : Hid (Below w.heap.size w w5) := Lib.hid (below_kp (HBW.out.trans (HBN.out.mono HBW.out.size)) hkp (fun j hj => by
    rcases hj with rfl | hj
    · rw [HSB.out]; exact Nat.le_refl _
    · have := (HTT.out.2.2.lt _ hj).1; rw [← HSB.out]; omega))
  have HTO := Lib.hid hT
  clear hT hkp hgz HCR HRN HBN HTT HBW HSW
  have HTT := HTO
  have HBW := HBO
  have HSW := HSO
  clear HTO HBO HSO
  go_wp2_with fail
  refine (roomT_any sb (sb + 1) q5 c5 ((1 : Nat) : Int) [⟨[97], 3, 0, none⟩] w5 HTT.out (by decide) (by decide) (by decide)).mono ?_
  rintro e w6 ⟨rfl, hb⟩
  have HB6 := Lib.hid (HBW.out.trans (hb.mono HBW.out.size))
  have HV : Hid ((((1 : Nat) : Int) - (idsT [⟨[97], 3, 0, none⟩] 1).length - (idsT [⟨[97], 3, 0, none⟩] 2).length) = 1) := Lib.hid rfl
  rw [HV.out]
  clear hb
  go_wp2_with fail
  go_ret
  exact ⟨rfl, HB6.out⟩
set_option maxRecDepth 100000 in
set_option maxHeartbeats 1000000 in
theorem tenantNil_any (q : Option Addr) (c : Nat) (l : List UInt8) (w : World) (hS : Sha.Tabs w) (hl : Rd w 1 (.slice q l.length c) l.length (bys l)) : Calls Tryd.prog 4 #[.slice q l.length c] w fun e w' => e = .returned (.bool true) ∧ Below w.heap.size w w' := by
  have hc : l.length ≤ c := by
    rcases hl.2 with ⟨hv, h0⟩ | ⟨b, off, cap, hv, _, hle, _⟩
    · injection hv with _ h1 h2; omega
    · injection hv with _ h1 h2; omega
  have HS := Lib.hid hS
  have HL := Lib.hid hl
  clear hS hl
  go_enter Tryd.func4, Tryd.ntmps4
  go_wp2_with fail
  refine (newTab_any 2 (by decide) (by decide) w).mono ?_
  rintro e w1 ⟨rfl, hw⟩
  obtain ⟨sb, hsb⟩ : ∃ sb, sb = w.heap.size := ⟨_, rfl⟩
  have HBW : Hid (Below w.heap.size w w1) := Lib.hid (by rw [hw]; exact (Below.refl _ _).alloc (Nat.le_refl _) _)
  have HTT : Hid (TabAt w1 sb (sb + 1) none 0 (2 : Nat) []) := Lib.hid ⟨by rw [hw, hsb]; exact heap_alloc_new w _, by omega, Ow.nil _ _ _ _⟩
  have HSB := Lib.hid hsb
  rw [← hsb]
  clear hw hsb
  by_cases h20 : 20 < l.length
  · have h2c : 20 ≤ c := by omega
    go_wp2_with fail
    refine (impT_nil sb q _ c w1).mono ?_
    rintro e w2 ⟨rfl, hw⟩
    obtain rfl : w1 = w2 := hw.symm
    clear hw
    go_wp2_with fail
    refine (tables_any w1 (HS.out.below HBW.out)).mono ?_
    rintro e w2 ⟨rfl, hb⟩
    have HT2 := Lib.hid (HTT.out.below hb)
    have HB2 := Lib.hid (HBW.out.trans (hb.mono HBW.out.size))
    clear hb
    go_wp2_with fail
    refine (roomT_any sb (sb + 1) none 0 ((2 : Nat) : Int) [] w2 HT2.out (by simp) (by decide) (by decide)).mono ?_
    rintro e w3 ⟨rfl, hb⟩
    have HV : Hid ((((2 : Nat) : Int) - (idsT [] 1).length - (idsT [] 2).length) = 2) := Lib.hid rfl
    rw [HV.out]
    have HB3 := Lib.hid (HB2.out.trans (hb.mono HB2.out.size))
    clear hb
    go_wp2_with fail
    go_ret
    exact ⟨rfl, HB3.out⟩
  · have hll : l.length ≤ 20 := by omega
    clear h20
    go_wp2_with fail
    refine (impT_nil sb q _ c w1).mono ?_
    rintro e w2 ⟨rfl, hw⟩
    obtain rfl : w1 = w2 := hw.symm
    clear hw
    go_wp2_with fail
    refine (tables_any w1 (HS.out.below HBW.out)).mono ?_
    rintro e w2 ⟨rfl, hb⟩
    have HT2 := Lib.hid (HTT.out.below hb)
    have HB2 := Lib.hid (HBW.out.trans (hb.mono HBW.out.size))
    clear hb
    go_wp2_with fail
    refine (roomT_any sb (sb + 1) none 0 ((2 : Nat) : Int) [] w2 HT2.out (by simp) (by decide) (by decide)).mono ?_
    rintro e w3 ⟨rfl, hb⟩
    have HV : Hid ((((2 : Nat) : Int) - (idsT [] 1).length - (idsT [] 2).length) = 2) := Lib.hid rfl
    rw [HV.out]
    have HB3 := Lib.hid (HB2.out.trans (hb.mono HB2.out.size))
    clear hb
    go_wp2_with fail
    go_ret
    exact ⟨rfl, HB3.out⟩
end Ten
end Go.Proofs.YtmkoiddfkanmiaaDoor

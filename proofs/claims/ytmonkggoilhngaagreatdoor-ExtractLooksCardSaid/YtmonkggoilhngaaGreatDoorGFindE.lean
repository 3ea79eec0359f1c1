/- How a member that is gone stands: its texts. -/
import Derived.Test.YtmonkggoilhngaaGreatDoorGFindA
import Derived.Test.YtmonkggoilhngaaGreatDoorGL32P
import Derived.Test.YtmonkggoilhngaaGreatDoorGTenH
namespace Go.Proofs.YtmonkggoilhngaaGreatDoor
open Go.RowKit Bits Mem Sha
namespace Fnd
theorem alloc_cell (w : World) (C : Array Value) (t : TypeId) {j : Nat} {v : Value} (h : C[j]? = some v) : (w.alloc (.cells C t)).cell? ⟨w.heap.size, j, none⟩ = some v := (cell_of_row _ _ _ _ _ _ (heap_alloc_new w _)).trans h
theorem load_part {w : World} {g off : Nat} {t : TypeId} {C D : Array Value} {fz : Nat × Nat} {T : TypeId} {d : TypeDesc} (h : w.heap[g]? = some (.cells C t fz)) (hp : ∀ j v, D[j]? = some v → C[off + j]? = some v) (hu : Tryz.prog.underlying T = some d) (ha : d.isRow = true) (hi : (Tryz.prog.info? T).map (·.size) = some D.size) : (Instr.loadAt T (.pointer (some ⟨g, off, none⟩))).run Tryz.prog w = .ok (.agg D) w := by
  have := run_loadAt_mid (P := Tryz.prog) w g off T D.toList d (fun j v hv => by
    rw [cell_of_row w g _ _ _ _ h]; exact hp j v (by simpa using hv)) hu ha (by rw [hi, Array.length_toList])
  simpa using this
theorem load_all {w : World} {g : Nat} {t : TypeId} {C : Array Value} {fz : Nat × Nat} {T : TypeId} {d : TypeDesc} (h : w.heap[g]? = some (.cells C t fz)) (hu : Tryz.prog.underlying T = some d) (ha : d.isRow = true) (hi : (Tryz.prog.info? T).map (·.size) = some C.size) : (Instr.loadAt T (.pointer (some ⟨g, 0, none⟩))).run Tryz.prog w = .ok (.agg C) w :=
  load_part h (fun j v hv => by rw [Nat.zero_add]; exact hv) hu ha hi
set_option maxRecDepth 100000 in
set_option maxHeartbeats 1000000 in
theorem end_none (C : Array Value) (w : World) (hC : C[1]? = some (.bool false)) :
    Calls Tryz.prog 58 #[.agg C] w fun e w' => ∃ q, e = .returned (.slice q 1 1) ∧ Ow w' w.heap.size 5 1 (.slice q 1 1) 1 (bys [2]) ∧ Below w.heap.size w w' := by
  have e1 := alloc_cell w C 32 hC
  have hb : Below w.heap.size w (w.alloc (.cells C 32)) := (Below.refl _ _).alloc (Nat.le_refl _) _
  have HO : Hid (Ow ((w.alloc (.cells C 32)).alloc (.cells #[.int .u8 2] 5)) w.heap.size 5 1 (.slice (some ⟨w.heap.size + 1, 0, none⟩) 1 1) 1 (bys [2])) := Lib.hid (by
    have hs : (w.alloc (.cells C 32)).heap.size = w.heap.size + 1 := Array.size_push _
    rw [← hs]
    exact Ow.lit _ #[.int .u8 2] 5 1 1 w.heap.size hb.size (by decide) rfl)
  have HB : Hid (Below w.heap.size w ((w.alloc (.cells C 32)).alloc (.cells #[.int .u8 2] 5))) := Lib.hid (hb.alloc hb.size _)
  clear hb hC
  go_enter Tryz.func58, Tryz.ntmps58
  go_wp2_with fail
  go_ret
  exact ⟨_, rfl, HO.out, HB.out⟩
set_option maxRecDepth 100000 in
set_option maxHeartbeats 1000000 in
theorem value_gone (C : Array Value) (w : World) (hC : C[1]? = some (.bool true)) :
    Calls Tryz.prog 51 #[.agg C] w fun e w' => ∃ q, e = .returned (.slice q 1 1) ∧ Ow w' w.heap.size 5 1 (.slice q 1 1) 1 (bys [7]) ∧ Below w.heap.size w w' := by
  have e1 := alloc_cell w C 43 hC
  have hb : Below w.heap.size w (w.alloc (.cells C 43)) := (Below.refl _ _).alloc (Nat.le_refl _) _
  have HO : Hid (Ow ((w.alloc (.cells C 43)).alloc (.cells #[.int .u8 7] 5)) w.heap.size 5 1 (.slice (some ⟨w.heap.size + 1, 0, none⟩) 1 1) 1 (bys [7])) := Lib.hid (by
    have hs : (w.alloc (.cells C 43)).heap.size = w.heap.size + 1 := Array.size_push _
    rw [← hs]
    exact Ow.lit _ #[.int .u8 7] 5 1 1 w.heap.size hb.size (by decide) rfl)
  have HB : Hid (Below w.heap.size w ((w.alloc (.cells C 43)).alloc (.cells #[.int .u8 7] 5))) := Lib.hid (hb.alloc hb.size _)
  clear hb hC
  go_enter Tryz.func51, Tryz.ntmps51
  go_wp2_with fail
  go_ret
  exact ⟨_, rfl, HO.out, HB.out⟩
theorem infoU8F : (Tryz.prog.info? 5).map (fun i => (i.zero, i.size, i.bytes)) = some (some (.int .u8 0), 1, 1) := by kernel_rfl
set_option maxRecDepth 100000 in
set_option maxHeartbeats 1000000 in
theorem keytext_any (q : Option Addr) (c : Nat) (l : List UInt8) (w : World) (hl : Rd w 1 (.slice q l.length c) l.length (bys l)) (h : l.length ≤ 1000000) :
    Calls Tryz.prog 71 #[.slice q l.length c] w fun e w' => ∃ q' c', e = .returned (.slice q' (5 :: l).length c') ∧ Ow w' w.heap.size 5 1 (.slice q' (5 :: l).length c') (5 :: l).length (bys (5 :: l)) ∧ Below w.heap.size w w' := by
  obtain ⟨i0, hi0, hz0, hz1, hz2⟩ := parts3M infoU8F
  obtain ⟨wl, hwl⟩ : ∃ wl, wl = w.alloc (.cells #[.int .u8 5] 5) := ⟨_, rfl⟩
  have hbl : Below w.heap.size w wl := by rw [hwl]; exact (Below.refl _ _).alloc (Nat.le_refl _) _
  have HO0 : Hid (Ow wl w.heap.size 5 1 (.slice (some ⟨w.heap.size, 0, none⟩) 1 1) 1 (bys [5])) := Lib.hid (by rw [hwl]; exact Ow.lit w #[.int .u8 5] 5 1 1 w.heap.size (Nat.le_refl _) (by decide) rfl)
  have HLL := Lib.hid (hl.below hbl)
  have HBL := Lib.hid hbl
  have HWL := Lib.hid hwl
  have hsz := hbl.size
  clear hl hwl hbl
  go_enter Tryz.func71, Tryz.ntmps71
  go_wp2_with (at_builtin; go_must (rw [← HWL.out]); go_must (refine app_ow3 rfl _ _ 23 23 rfl w.heap.size 5 i0 (.int .u8 0) 1 1 Tryz.underlying23 hi0 hz0 hz1 hz2 (by rfl) _ 1 _ rfl HO0.out l.length _ rfl (Rd.src Tryz.underlying23 HLL.out (bys_one _)) (by unfold maxLen; omega) (by omega) hsz ?_); go_must (intro v4 w4 how4 hg4 hn4); go_must (obtain ⟨q4, c4, rfl⟩ := Ow_form how4); go_must (refine Hid.out ?_))
  refine Lib.hid ?_
  have hlen : 1 + l.length = (5 :: l).length := by rw [List.length_cons]; omega
  have hcell : bys [5] ++ bys l = bys (5 :: l) := rfl
  rw [hlen, hcell] at how4
  rw [hlen]
  have HO := Lib.hid how4
  have HB : Hid (Below w.heap.size w w4) := Lib.hid (HBL.out.grown hg4 HBL.out.size (fun k hk => by cases hk; exact Nat.le_refl _))
  clear how4 hg4 hn4 hlen hcell
  go_wp2_with fail
  go_ret
  exact ⟨q4, c4, rfl, HO.out, HB.out⟩
theorem infoKey (s : List UInt8) (h : s.length = 32) : (Tryz.prog.info? 28).map (·.size) = some (bysA s).size := by
  rw [bysA_size, h]
  kernel_rfl
set_option maxRecDepth 100000 in
set_option maxHeartbeats 1000000 in
theorem key_any (q : Option Addr) (c : Nat) (l : List UInt8) (w : World) (hS : Sha.Tabs w) (hl : Rd w 1 (.slice q l.length c) l.length (bys l)) (h : l.length ≤ 1000000) :
    Calls Tryz.prog 46 #[.slice q l.length c] w fun e w' => e = .returned (.agg (bysA (sha (5 :: l)))) ∧ Below w.heap.size w w' := by
  obtain ⟨w0, hw0⟩ : ∃ w0, w0 = w.alloc (.cells (bysA zeros32) 28) := ⟨_, rfl⟩
  have hb0 : Below w.heap.size w w0 := by rw [hw0]; exact (Below.refl _ _).alloc (Nat.le_refl _) _
  have hr0 : w0.heap[w.heap.size]? = some (.cells (bysA zeros32) 28 (0, 0)) := by rw [hw0]; exact heap_alloc_new w _
  have HKT := Lib.hid (keytext_any q c l w0 (hl.below hb0) h)
  have HS := Lib.hid hS
  have HB0 := Lib.hid hb0
  have HR0 := Lib.hid hr0
  have HW0 := Lib.hid hw0
  clear hS hl hw0 hb0 hr0
  go_enter Tryz.func46, Tryz.ntmps46
  go_wp2_with fail
  rw [Ten.z32T, ← HW0.out]
  refine HKT.out.mono ?_
  rintro e w1 ⟨q', c', rfl, how, hb⟩
  obtain ⟨L, hL⟩ : ∃ L, L = (5 : UInt8) :: l := ⟨_, rfl⟩
  have hll : L.length ≤ 1000001 := by rw [hL, List.length_cons]; omega
  rw [← hL] at how ⊢
  have h0s : w.heap.size < w0.heap.size := (Array.getElem?_eq_some_iff.1 HR0.out).1
  have HB1 := Lib.hid (HB0.out.trans (hb.mono HB0.out.size))
  have HR1 : Hid (w1.heap[w.heap.size]? = some (.cells (bysA zeros32) 28 (0, 0))) := Lib.hid ((hb.block _ h0s).trans HR0.out)
  obtain ⟨w2, hw2⟩ : ∃ w2, w2 = w1.alloc (.cells #[.slice q' L.length c'] 23) := ⟨_, rfl⟩
  have hb2 : Below w1.heap.size w1 w2 := by rw [hw2]; exact (Below.refl _ _).alloc (Nat.le_refl _) _
  have HSU : Hid (Calls Tryz.prog 19 #[.slice (some ⟨w1.heap.size, 0, none⟩) 1 1] w2 fun e w' => e = .returned (.agg (bysA (sha L))) ∧ Below w2.heap.size w2 w') := Lib.hid (by
    have := parts_any (some ⟨w1.heap.size, 0, none⟩) 1 [L] w2 (HS.out.below (HB1.out.trans (hb2.mono HB1.out.size))) (by rw [hw2]; exact partsF w1 L _ ⟨_, _, rfl, Rd.of_ow how⟩) (by simp; omega)
    simpa using this)
  have HB2 := Lib.hid (HB1.out.trans (hb2.mono HB1.out.size))
  have h1s : w.heap.size < w1.heap.size := (Array.getElem?_eq_some_iff.1 HR1.out).1
  have HR2 : Hid (w2.heap[w.heap.size]? = some (.cells (bysA zeros32) 28 (0, 0))) := Lib.hid ((hb2.block _ h1s).trans HR1.out)
  have HW2 := Lib.hid hw2
  have HL := Lib.hid hL
  clear how hb hw2 hb2 hL h0s h1s HKT HR0 HR1 HB0 HB1 HW0
  go_wp2_with fail
  rw [← HW2.out]
  refine HSU.out.mono ?_
  rintro e w3 ⟨rfl, hb3⟩
  have h2s : w.heap.size < w2.heap.size := (Array.getElem?_eq_some_iff.1 HR2.out).1
  have HR3 : Hid (w3.heap[w.heap.size]? = some (.cells (bysA zeros32) 28 (0, 0))) := Lib.hid ((hb3.block _ h2s).trans HR2.out)
  have HB3 := Lib.hid (HB2.out.trans (hb3.mono HB2.out.size))
  have HM := Lib.hid (sha_length L)
  obtain ⟨R, hR⟩ : ∃ R, R = sha L := ⟨_, rfl⟩
  rw [← hR] at HM ⊢
  have HRR : Hid (R = sha (5 :: l)) := Lib.hid (by rw [hR, HL.out])
  have HIM := Lib.hid (infoKey R HM.out)
  clear hR hb3 h2s HSU HR2 HB2 HW2 HL
  go_wp2_with (refine Rg.store_row rfl 28 _ _ rfl w.heap.size rfl 28 (bysA zeros32) (bysA R) rfl HR3.out HIM.out (by rw [bysA_size, bysA_size, HM.out]; rfl) (bysA_one _) ?_)
  refine bodyPost_ret (v := .agg (bysA R)) (results_cell_row (P := Tryz.prog) rfl _ _ w.heap.size 28 (bysA R) (0, 0) _ rfl (setRow_heap _ _ _ _ 28 _ HR3.out) Tryz.underlying28 rfl HIM.out) rfl ⟨by rw [HRR.out], ?_⟩
  exact Rg.below_setRow HB3.out (Nat.le_refl _) _
theorem infoProof : (Tryz.prog.info? 32).map (·.size) = some 66 := by kernel_rfl
set_option maxRecDepth 100000 in
set_option maxHeartbeats 2000000 in
theorem texts_none (k : List UInt8) (C : Array Value) (w : World) (h0 : C[0]? = some (.slice none 0 0)) (h1 : C[1]? = some (.bool false)) (hs : C.size = 66) :
    Calls Tryz.prog 29 #[.agg (bysA k), .agg C] w fun e w' => ∃ g q, e = .returned (.slice (some ⟨g, 0, none⟩) 1 1) ∧ Ow w' w.heap.size 23 1 (.slice (some ⟨g, 0, none⟩) 1 1) 1 [.slice q 1 1] ∧ Ow w' w.heap.size 5 1 (.slice q 1 1) 1 (bys [2]) ∧ Below w.heap.size w w' := by
  obtain ⟨w1, hw1⟩ : ∃ w1, w1 = w.alloc (.cells (bysA k) 28) := ⟨_, rfl⟩
  obtain ⟨w2, hw2⟩ : ∃ w2, w2 = w1.alloc (.cells C 32) := ⟨_, rfl⟩
  have hs1 : w1.heap.size = w.heap.size + 1 := by rw [hw1]; exact Array.size_push _
  have hb1 : Below w.heap.size w w1 := by rw [hw1]; exact (Below.refl _ _).alloc (Nat.le_refl _) _
  have hb2 : Below w1.heap.size w1 w2 := by rw [hw2]; exact (Below.refl _ _).alloc (Nat.le_refl _) _
  have hr2 : w2.heap[w.heap.size + 1]? = some (.cells C 32 (0, 0)) := by rw [hw2, ← hs1]; exact heap_alloc_new w1 _
  have HLD : Hid ((Instr.loadAt 32 (.pointer (some ⟨w.heap.size + 1, 0, none⟩))).run Tryz.prog w2 = .ok (.agg C) w2) := Lib.hid (load_all hr2 Tryz.underlying32 rfl (by rw [hs]; exact infoProof))
  have HEN := Lib.hid (end_none C w2 h1)
  have HR2 := Lib.hid hr2
  have HB2 : Hid (Below w.heap.size w w2) := Lib.hid (hb1.trans (hb2.mono hb1.size))
  have HW1 := Lib.hid hw1
  have HW2 := Lib.hid hw2
  have H0 := Lib.hid h0
  clear h0 h1 hs hw1 hw2 hs1 hb1 hb2 hr2
  go_enter Tryz.func29, Tryz.ntmps29
  go_wp2_with (rw [← HW1.out, ← HW2.out]; refine l_load rfl _ _ rfl _ HLD.out ?_)
  refine HEN.out.mono ?_
  rintro e w3 ⟨q, rfl, how, hb3⟩
  have hgl := (Array.getElem?_eq_some_iff.1 HR2.out).1
  obtain ⟨w4, hw4⟩ : ∃ w4, w4 = w3.alloc (.cells #[.slice q 1 1] 23) := ⟨_, rfl⟩
  have hb4 : Below w3.heap.size w3 w4 := by rw [hw4]; exact (Below.refl _ _).alloc (Nat.le_refl _) _
  have hr4 : w4.heap[w.heap.size + 1]? = some (.cells C 32 (0, 0)) := ((hb3.trans (hb4.mono hb3.size)).block _ hgl).trans HR2.out
  have e4 : w4.cell? ⟨w.heap.size + 1, 0, none⟩ = some (.slice none 0 0) := (cell_of_row _ _ _ _ _ _ hr4).trans H0.out
  have hsz3 : w.heap.size ≤ w3.heap.size := Nat.le_trans HB2.out.size hb3.size
  have HRW : Hid (Ow w4 w.heap.size 23 1 (.slice (some ⟨w3.heap.size, 0, none⟩) 1 1) 1 [.slice q 1 1]) := Lib.hid (by rw [hw4]; exact Ow.lit w3 #[.slice q 1 1] 23 1 1 w.heap.size hsz3 (by decide) rfl)
  have HRI := Lib.hid ((how.below hb4).base_le HB2.out.size)
  have HB4 := Lib.hid (HB2.out.trans ((hb3.trans (hb4.mono hb3.size)).mono HB2.out.size))
  have HW4 := Lib.hid hw4
  rw [hw4] at e4
  clear how hb3 hb4 hr4 hw4 hgl HEN HLD hsz3
  go_wp2_with fail
  rw [← HW4.out]
  go_loopw [5, 6] (fun o v wr => o = .slice (some ⟨w3.heap.size, 0, none⟩) 1 1 ∧ v = .int .i64 (-1) ∧ wr = w4) (fun _ _ _ => 0)
  case atStart => exact ⟨rfl, rfl, rfl⟩
  case round =>
    obtain ⟨rfl, rfl, rfl⟩ := hrel
    go_wp2_with fail
    go_ret
    exact ⟨_, q, rfl, HRW.out, HRI.out, HB4.out⟩
theorem infoMember : (Tryz.prog.info? 43).map (·.size) = some 35 := by kernel_rfl
theorem infoRow : (Tryz.prog.info? 23).map (fun i => (i.zero, i.size, i.bytes)) = some (some (.slice none 0 0), 1, 24) := by kernel_rfl
set_option maxRecDepth 100000 in
set_option maxHeartbeats 4000000 in
theorem standing_gone (qi : Option Addr) (ci : Nat) (id : List UInt8) (M C D : Array Value) (w : World) (hS : Sha.Tabs w) (hi : Rd w 1 (.slice qi id.length ci) id.length (bys id)) (hil : id.length ≤ 1000000) (hM : M[1]? = some (.bool true)) (hMs : M.size = 35)
    (hD : ∀ (j : Nat) (v : Value), C[j]? = some v → D[j]? = some v) (h0 : C[0]? = some (.slice none 0 0)) (h1 : C[1]? = some (.bool false)) (hs : C.size = 66) :
    Calls Tryz.prog 23 #[.slice qi id.length ci, .agg M, .agg D] w fun e w' => ∃ q c, e = .returned (.slice q 2 c) ∧ Parts w' (.slice q 2 c) [[7], [2]] ∧ Below w.heap.size w w' := by
  obtain ⟨i0, hi0, hz0, hz1, hz2⟩ := parts3M infoRow
  obtain ⟨w1, hw1⟩ : ∃ w1, w1 = w.alloc (.cells M 43) := ⟨_, rfl⟩
  obtain ⟨w2, hw2⟩ : ∃ w2, w2 = w1.alloc (.cells D 39) := ⟨_, rfl⟩
  have hs1 : w1.heap.size = w.heap.size + 1 := by rw [hw1]; exact Array.size_push _
  have hb1 : Below w.heap.size w w1 := by rw [hw1]; exact (Below.refl _ _).alloc (Nat.le_refl _) _
  have hb2 : Below w1.heap.size w1 w2 := by rw [hw2]; exact (Below.refl _ _).alloc (Nat.le_refl _) _
  have hr1 : w2.heap[w.heap.size]? = some (.cells M 43 (0, 0)) := (hb2.block _ (by omega)).trans (by rw [hw1]; exact heap_alloc_new w _)
  have hr2 : w2.heap[w.heap.size + 1]? = some (.cells D 39 (0, 0)) := by rw [hw2, ← hs1]; exact heap_alloc_new w1 _
  have HB2 : Hid (Below w.heap.size w w2) := Lib.hid (hb1.trans (hb2.mono hb1.size))
  have hl1 : w.heap.size < w2.heap.size := (Array.getElem?_eq_some_iff.1 hr1).1
  have hl2 : w.heap.size + 1 < w2.heap.size := (Array.getElem?_eq_some_iff.1 hr2).1
  have HLM : Hid (∀ y : World, Below w2.heap.size w2 y → (Instr.loadAt 43 (.pointer (some ⟨w.heap.size, 0, none⟩))).run Tryz.prog y = .ok (.agg M) y) := Lib.hid (fun y hy => load_all ((hy.block _ hl1).trans hr1) Tryz.underlying43 rfl (by rw [hMs]; exact infoMember))
  have HLC : Hid (∀ y : World, Below w2.heap.size w2 y → (Instr.loadAt 32 (.pointer (some ⟨w.heap.size + 1, 0, none⟩))).run Tryz.prog y = .ok (.agg C) y) := Lib.hid (fun y hy => load_part ((hy.block _ hl2).trans hr2) (fun j v hj => by rw [Nat.zero_add]; exact hD j v hj) Tryz.underlying32 rfl (by rw [hs]; exact infoProof))
  have HVT := Lib.hid (fun y : World => value_gone M y hM)
  have HTX := Lib.hid (fun (y : World) (k : List UInt8) => texts_none k C y h0 h1 hs)
  have HKY := Lib.hid (fun (y : World) (hy : Below w2.heap.size w2 y) => key_any qi ci id y (hS.below (HB2.out.trans (hy.mono HB2.out.size))) (hi.below (HB2.out.trans (hy.mono HB2.out.size))) hil)
  have HW1 := Lib.hid hw1
  have HW2 := Lib.hid hw2
  obtain ⟨K, hK⟩ : ∃ K, K = sha (5 :: id) := ⟨_, rfl⟩
  rw [← hK] at HKY
  clear hS hi hM hMs hD h0 h1 hs hw1 hw2 hs1 hb1 hb2 hr1 hr2 hK
  go_enter Tryz.func23, Tryz.ntmps23
  go_wp2_with fail
  rw [← HW1.out, ← HW2.out]
  refine Rc.region (w2.heap.size) 10 [Rc.F 1 (fun p => .slice p.q 1 1) (fun p _ y => Rd y 1 (.slice p.q 1 1) 1 (bys [7])), ⟨2, [1], [], some (fun _ pj => .slice pj.q 1 1), fun p pj F y => OwF F y w2.heap.size 23 1 (.slice pj.q 1 1) 1 [.slice (p 1).q 1 1]⟩, Rc.F 4 (fun _ => .agg (bysA K)) (fun _ _ _ => True), Rc.F 7 (fun p => .slice p.q 1 1) (fun p _ y => ∃ q, p.v = .slice q 1 1 ∧ Rd y 1 (.slice p.q 1 1) 1 [p.v] ∧ Rd y 1 (.slice q 1 1) 1 (bys [2])), ⟨8, [1, 2, 7], [2], some (fun _ pj => .slice pj.q 2 pj.c), fun p pj F y => Rd y 1 (.slice pj.q 2 pj.c) 2 [.slice (p 1).q 1 1, (p 7).v]⟩] [1, 7, 8] (by kernel_rfl) (Nat.le_refl _) (by kernel_rfl) ?_; intro p; simp only [List.take, List.drop]
  refine Rc.r_load rfl rfl _ _ rfl (.agg M) (fun x hx => HLM.out x (Rc.undrew hx)) ?_; intro K hK; go_simp; refine hK _ ?_; clear hK K
  refine Rc.fK rfl rfl rfl rfl ?_ ?_
  · intro x Fs hx hle hg K' hK
    go_wp2_with fail
    refine (HVT.out x).mono ?_
    rintro e x' ⟨q, rfl, how, hb⟩
    go_wp2_with fail
    exact hK ⟨q, 1, undef⟩ x' hb (fun F y hF hy => (Rd.of_ow how).keeps hy (fun k hk => .inr (hF k (how.lt k hk).1 (how.lt k hk).2)))
  intro K hK; go_simp; refine hK _ ?_; clear hK K
  refine Rc.fK rfl rfl rfl rfl ?_ ?_
  · intro x Fs hx hle hg K' hK
    go_wp2_with fail
    exact hK ⟨some ⟨x.heap.size, 0, none⟩, 1, undef⟩ _ ((Below.refl _ _).alloc (Nat.le_refl _) _) (fun F y hF hy => OwF.fresh (Ow.lit x #[.slice (p 1).q 1 1] 23 1 1 x.heap.size (Nat.le_refl _) (by decide) rfl) hle hF hy)
  intro K hK; go_simp; refine hK _ ?_; clear hK K
  iterate 1 (refine Rc.rK rfl rfl ?_; intro K hK; apply Exists.intro; refine ⟨?_, ?_⟩; (focus (intro x hx;  go_simp; (first | (fail) | ((try go_bits); (try go_simp); (try rfl))))); go_simp; refine hK _ ?_; clear hK K)
  refine Rc.fK rfl rfl rfl rfl ?_ ?_
  · intro x Fs hx hle hg K' hK
    have hck := HKY.out x (Rc.undrew hx)
    clear hx hg
    go_wp2_with fail
    refine hck.mono ?_
    rintro e x' ⟨rfl, hb⟩
    go_wp2_with fail
    exact hK ⟨none, 0, undef⟩ x' hb (fun _ _ _ _ => trivial)
  intro K hK; go_simp; refine hK _ ?_; clear hK K
  iterate 1 (refine Rc.rK rfl rfl ?_; intro K hK; apply Exists.intro; refine ⟨?_, ?_⟩; (focus (intro x hx;  go_simp; (first | (fail) | ((try go_bits); (try go_simp); (try rfl))))); go_simp; refine hK _ ?_; clear hK K)
  refine Rc.r_load rfl rfl _ _ rfl (.agg C) (fun x hx => HLC.out x (Rc.undrew hx)) ?_; intro K hK; go_simp; refine hK _ ?_; clear hK K
  refine Rc.fK rfl rfl rfl rfl ?_ ?_
  · intro x Fs hx hle hg K' hK
    go_wp2_with fail
    refine (HTX.out x K).mono ?_
    rintro e x' ⟨g, q, rfl, h1, h2, hb⟩
    go_wp2_with fail
    exact hK ⟨some ⟨g, 0, none⟩, 1, .slice q 1 1⟩ x' hb (fun F y hF hy => ⟨q, rfl, (Rd.of_ow h1).keeps hy (fun k hk => .inr (hF k (h1.lt k hk).1 (h1.lt k hk).2)), (Rd.of_ow h2).keeps hy (fun k hk => .inr (hF k (h2.lt k hk).1 (h2.lt k hk).2))⟩)
  intro K hK; go_simp; refine hK _ ?_; clear hK K
  refine Rc.cK rfl rfl rfl ?_ ?_
  · intro x Fs hx hle hg K' hK
    have HO : Hid (OwF (Fs 2) x w2.heap.size 23 1 (.slice (p 2).q 1 1) 1 [.slice (p 1).q 1 1]) := Lib.hid hg.2.1
    obtain ⟨q7, hq7, hr7, _⟩ : ∃ q, (p 7).v = .slice q 1 1 ∧ Rd x 1 (.slice (p 7).q 1 1) 1 [(p 7).v] ∧ Rd x 1 (.slice q 1 1) 1 (bys [2]) := hg.2.2.1
    have HQ7 := Lib.hid hq7
    have HR7 := Lib.hid hr7
    clear hg hq7 hr7
    refine app_ow3 rfl _ _ 56 56 rfl w2.heap.size 23 i0 (.slice none 0 0) 1 24 Tryz.underlying56 hi0 hz0 hz1 hz2 (by rfl) _ 1 _ rfl HO.out.1 1 _ rfl (Rd.src Tryz.underlying56 HR7.out (fun u hu => by rw [List.mem_singleton] at hu; rw [hu, HQ7.out]; rfl)) (by unfold maxLen; omega) (by omega) hle ?_
    intro v' x' how hg' hor
    obtain ⟨q', c', rfl⟩ := Ow_form how
    go_wp2_with fail
    exact hK ⟨q', c', undef⟩ x' (HO.out.eff (by simp) hg') (fun y hy => Rd.of_ow (HO.out.next (con := [2]) (by simp) how hor hy).1)
  intro K hK; go_simp; refine hK _ ?_; clear hK K
  iterate 1 (refine Rc.rK rfl rfl ?_; intro K hK; apply Exists.intro; refine ⟨?_, ?_⟩; (focus (intro x hx;  go_simp; (first | (fail) | ((try go_bits); (try go_simp); (try rfl))))); go_simp; refine hK _ ?_; clear hK K)
  refine Rc.done fun wz Fs hx hle hg => ?_
  obtain ⟨q8, hq8⟩ : ∃ q8, q8 = (p 8).q := ⟨_, rfl⟩
  obtain ⟨c8, hc8⟩ : ∃ c8, c8 = (p 8).c := ⟨_, rfl⟩
  obtain ⟨q7, hq7, hr7, hi7⟩ : ∃ q, (p 7).v = .slice q 1 1 ∧ Rd wz 1 (.slice (p 7).q 1 1) 1 [(p 7).v] ∧ Rd wz 1 (.slice q 1 1) 1 (bys [2]) := hg.2.1
  have hi1 : Rd wz 1 (.slice (p 1).q 1 1) 1 (bys [7]) := hg.1
  have hr8 : Rd wz 1 (.slice (p 8).q 2 (p 8).c) 2 [.slice (p 1).q 1 1, (p 7).v] := hg.2.2.1
  rw [hq7] at hr8
  rw [← hq8, ← hc8] at hr8 ⊢
  have HPT : Hid (Parts wz (.slice q8 2 c8) [[7], [2]]) := Lib.hid ⟨_, hr8, fun i hi => by
    match i, hi with
    | 0, _ => exact ⟨_, 1, rfl, hi1⟩
    | 1, _ => exact ⟨_, 1, rfl, hi7⟩⟩
  have HBZ := Lib.hid (HB2.out.trans ((Rc.undrew hx).mono HB2.out.size))
  clear hx hle hg hq8 hc8 hq7 hr7 hi7 hi1 hr8
  go_wp2_with fail
  refine NoPanic.normal ?_
  go_wp2_with fail
  go_ret
  exact ⟨q8, c8, rfl, HPT.out, HBZ.out⟩
end Fnd
end Go.Proofs.YtmonkggoilhngaaGreatDoor
/- extract.Stand of one that is gone, and what 'finds' asks. -/
namespace Go.Proofs.YtmonkggoilhngaaGreatDoor
open Go.RowKit Bits Mem Sha
namespace Fnd
theorem infoUnder : (Tryz.prog.info? 39).map (·.size) = some 196 := by kernel_rfl
set_option maxRecDepth 100000 in
set_option maxHeartbeats 1000000 in
theorem stand_gone (qi : Option Addr) (ci : Nat) (id : List UInt8) (M C D A : Array Value) (w : World) (hS : Sha.Tabs w) (hi : Rd w 1 (.slice qi id.length ci) id.length (bys id)) (hil : id.length ≤ 1000000) (hM : M[1]? = some (.bool true)) (hMs : M.size = 35)
    (hD : ∀ (j : Nat) (v : Value), C[j]? = some v → D[j]? = some v) (h0 : C[0]? = some (.slice none 0 0)) (h1 : C[1]? = some (.bool false)) (hs : C.size = 66)
    (hAM : ∀ (j : Nat) (v : Value), M[j]? = some v → A[577 + j]? = some v) (hAD : ∀ (j : Nat) (v : Value), D[j]? = some v → A[379 + j]? = some v) (hDs : D.size = 196) :
    Calls Tryz.prog 10 #[.slice qi id.length ci, .agg A] w fun e w' => ∃ q c, e = .returned (.slice q 2 c) ∧ Parts w' (.slice q 2 c) [[7], [2]] ∧ Below w.heap.size w w' := by
  obtain ⟨w1, hw1⟩ : ∃ w1, w1 = w.alloc (.cells A 45) := ⟨_, rfl⟩
  have hb1 : Below w.heap.size w w1 := by rw [hw1]; exact (Below.refl _ _).alloc (Nat.le_refl _) _
  have hr1 : w1.heap[w.heap.size]? = some (.cells A 45 (0, 0)) := by rw [hw1]; exact heap_alloc_new w _
  have HLM : Hid ((Instr.loadAt 43 (.pointer (some ⟨w.heap.size, 577, none⟩))).run Tryz.prog w1 = .ok (.agg M) w1) := Lib.hid (load_part hr1 hAM Tryz.underlying43 rfl (by rw [hMs]; exact infoMember))
  have HLU : Hid ((Instr.loadAt 39 (.pointer (some ⟨w.heap.size, 379, none⟩))).run Tryz.prog w1 = .ok (.agg D) w1) := Lib.hid (load_part hr1 hAD Tryz.underlying39 rfl (by rw [hDs]; exact infoUnder))
  have HST := Lib.hid (standing_gone qi ci id M C D w1 (hS.below hb1) (hi.below hb1) hil hM hMs hD h0 h1 hs)
  have HB1 := Lib.hid hb1
  have HW1 := Lib.hid hw1
  clear hS hi hM hMs hD h0 h1 hs hAM hAD hDs hw1 hb1 hr1
  go_enter Tryz.func10, Tryz.ntmps10
  go_wp2_with (first | (rw [← HW1.out]; refine l_load rfl 43 _ rfl (.agg M) HLM.out ?_) | (refine l_load rfl 39 _ rfl (.agg D) HLU.out ?_))
  refine HST.out.mono ?_
  rintro e w2 ⟨q, c, rfl, hp, hb⟩
  have HP := Lib.hid hp
  have HB := Lib.hid (HB1.out.trans (hb.mono HB1.out.size))
  clear hp hb
  go_wp2_with fail
  go_ret
  exact ⟨q, c, rfl, HP.out, HB.out⟩
def memC (q : Option Addr) : Array Value := #[.slice q 1 1, .bool true, .int .i64 0] ++ bysA zeros32
theorem built_mem (q : Option Addr) : Tryz.prog.built 43 [(0, .slice q 1 1), (1, .bool true)] = some (memC q) := by kernel_rfl
noncomputable def ansC (q : Option Addr) : Array Value := (Tryz.prog.built 45 [(9, .agg (memC q))]).getD #[]
theorem built_ans (q : Option Addr) : Tryz.prog.built 45 [(9, .agg (memC q))] = some (ansC q) := by kernel_rfl
noncomputable def undC : Array Value := (ansC none).extract 379 575
noncomputable def prfC : Array Value := undC.extract 0 66
theorem ans_mem (q : Option Addr) : (ansC q).extract 577 612 = memC q := by kernel_rfl
theorem ans_und (q : Option Addr) : (ansC q).extract 379 575 = undC := by kernel_rfl
theorem part_of {A M : Array Value} {o n : Nat} (h : A.extract o n = M) : ∀ (j : Nat) (v : Value), M[j]? = some v → A[o + j]? = some v := by
  intro j v hj
  subst h
  rw [Array.getElem?_extract] at hj
  split at hj
  · exact hj
  · cases hj
theorem und_size : undC.size = 196 := by kernel_rfl
theorem prf_size : prfC.size = 66 := by kernel_rfl
theorem prf_und : ∀ (j : Nat) (v : Value), prfC[j]? = some v → undC[j]? = some v := by
  intro j v hj
  have := part_of (A := undC) (o := 0) (n := 66) rfl j v hj
  rwa [Nat.zero_add] at this
theorem prf_0 : prfC[0]? = some (.slice none 0 0) := by kernel_rfl
theorem prf_1 : prfC[1]? = some (.bool false) := by kernel_rfl
theorem mem_1 (q : Option Addr) : (memC q)[1]? = some (.bool true) := by kernel_rfl
theorem mem_size (q : Option Addr) : (memC q).size = 35 := by kernel_rfl
end Fnd
end Go.Proofs.YtmonkggoilhngaaGreatDoor
/- custumallaw30.finds: nothing is found in the same lists, and a standing has its texts. -/
namespace Go.Proofs.YtmonkggoilhngaaGreatDoor
open Go.RowKit Bits Mem Sha
namespace Fnd
theorem find_none : findP [[1], [2]] [[1], [2]] = ([], [], false) := by kernel_rfl
set_option maxRecDepth 100000 in
set_option maxHeartbeats 2000000 in
theorem finds_any (w : World) (hS : Sha.Tabs w) : Calls Tryz.prog 6 #[] w fun e w' => e = .returned (.bool true) ∧ Below w.heap.size w w' := by
  obtain ⟨w1, hw1⟩ : ∃ w1, w1 = w.alloc (.cells #[.int .u8 1] 5) := ⟨_, rfl⟩
  obtain ⟨w2, hw2⟩ : ∃ w2, w2 = w1.alloc (.cells #[.int .u8 2] 5) := ⟨_, rfl⟩
  obtain ⟨w3, hw3⟩ : ∃ w3, w3 = w2.alloc (.cells #[.slice (some ⟨w.heap.size, 0, none⟩) 1 1, .slice (some ⟨w.heap.size + 1, 0, none⟩) 1 1] 23) := ⟨_, rfl⟩
  have hs1 : w1.heap.size = w.heap.size + 1 := by rw [hw1]; exact Array.size_push _
  have hs2 : w2.heap.size = w.heap.size + 1 + 1 := by rw [hw2, World.size_alloc, hs1]
  have hb1 : Below w.heap.size w w1 := by rw [hw1]; exact (Below.refl _ _).alloc (Nat.le_refl _) _
  have hb2 : Below w1.heap.size w1 w2 := by rw [hw2]; exact (Below.refl _ _).alloc (Nat.le_refl _) _
  have hb3 : Below w2.heap.size w2 w3 := by rw [hw3]; exact (Below.refl _ _).alloc (Nat.le_refl _) _
  have r1 : Rd w1 1 (.slice (some ⟨w.heap.size, 0, none⟩) 1 1) 1 (bys [1]) := by rw [hw1]; exact Rd_lit w #[.int .u8 1] 5 1 1 rfl (by decide)
  have r2 : Rd w2 1 (.slice (some ⟨w.heap.size + 1, 0, none⟩) 1 1) 1 (bys [2]) := by rw [hw2, ← hs1]; exact Rd_lit w1 #[.int .u8 2] 5 1 1 rfl (by decide)
  have hp : Parts w3 (.slice (some ⟨w.heap.size + 1 + 1, 0, none⟩) 2 2) [[1], [2]] := by
    rw [hw3, ← hs2]
    exact Ten.lit2T w2 [1] [2] _ _ ⟨_, _, rfl, r1.below hb2⟩ ⟨_, _, rfl, r2⟩
  have HB3 : Hid (Below w.heap.size w w3) := Lib.hid ((hb1.trans (hb2.mono hb1.size)).trans (hb3.mono (by omega)))
  have hfi := efind_any (some ⟨w.heap.size + 1 + 1, 0, none⟩) 2 [[1], [2]] (some ⟨w.heap.size + 1 + 1, 0, none⟩) 2 [[1], [2]] w3 (hS.below HB3.out) hp hp (by decide) (by decide) (fun t ht => by simp at ht; rcases ht with rfl | rfl <;> decide) (fun t ht => by simp at ht; rcases ht with rfl | rfl <;> decide)
  rw [find_none] at hfi
  have HFI := Lib.hid hfi
  have HS := Lib.hid hS
  have HW1 := Lib.hid hw1
  have HW2 := Lib.hid hw2
  have HW3 := Lib.hid hw3
  clear hS hw1 hw2 hw3 hs1 hs2 hb1 hb2 hb3 r1 r2 hp hfi
  go_enter Tryz.func6, Tryz.ntmps6
  go_wp2_with fail
  rw [← HW1.out, ← HW2.out, ← HW3.out]
  refine HFI.out.mono ?_
  rintro e w4 ⟨qx, cx, qy, cy, rfl, _, _, hb⟩
  have HB4 := Lib.hid (HB3.out.trans (hb.mono HB3.out.size))
  clear hb
  go_wp2_with (refine conv_markT rfl 23 _ rfl 5 Tryz.underlying23 Tryz.underlying5 _ 1 1 rfl #[.int .u8 116] (heap_alloc_new _ _) ?_; go_must (intro w5 hrm hgm); go_must (refine Hid.out ?_))
  refine Lib.hid ?_
  have hbm : Below w4.heap.size w4 w5 := ⟨hgm.os, hgm.tape, hgm.output, Nat.le_trans (Nat.le_of_lt (Array.getElem?_eq_some_iff.1 (heap_alloc_new w4 (.cells #[.int .u8 116] 5))).1) hgm.size, fun j hj => (hgm.block j (Nat.lt_trans hj (Array.getElem?_eq_some_iff.1 (heap_alloc_new w4 (.cells #[.int .u8 116] 5))).1) (fun e => by cases e; omega)).trans (Rg.heap_alloc_past w4 _ j hj)⟩
  have HRw5 : Hid (Rd w5 1 (.slice (some ⟨w4.heap.size, 0, none⟩) 1 1) 1 (bys [116])) := Lib.hid (Rd_of_rowT (l := [116]) hrm rfl (by decide))
  have HBw5 := Lib.hid hbm
  clear hbm hrm hgm
  go_wp2_with (refine conv_markT rfl 23 _ rfl 5 Tryz.underlying23 Tryz.underlying5 _ 1 1 rfl #[.int .u8 116] (heap_alloc_new _ _) ?_; go_must (intro w6 hrm hgm); go_must (refine Hid.out ?_))
  refine Lib.hid ?_
  have hbm : Below w5.heap.size w5 w6 := ⟨hgm.os, hgm.tape, hgm.output, Nat.le_trans (Nat.le_of_lt (Array.getElem?_eq_some_iff.1 (heap_alloc_new w5 (.cells #[.int .u8 116] 5))).1) hgm.size, fun j hj => (hgm.block j (Nat.lt_trans hj (Array.getElem?_eq_some_iff.1 (heap_alloc_new w5 (.cells #[.int .u8 116] 5))).1) (fun e => by cases e; omega)).trans (Rg.heap_alloc_past w5 _ j hj)⟩
  have HRw6 : Hid (Rd w6 1 (.slice (some ⟨w5.heap.size, 0, none⟩) 1 1) 1 (bys [116])) := Lib.hid (Rd_of_rowT (l := [116]) hrm rfl (by decide))
  have HBw6 := Lib.hid hbm
  clear hbm hrm hgm
  have hb46 : Below w4.heap.size w4 w6 := HBw5.out.trans (HBw6.out.mono HBw5.out.size)
  have HB6 := Lib.hid (HB4.out.trans (hb46.mono HB4.out.size))
  have HR6 := Lib.hid (HRw5.out.below HBw6.out)
  obtain ⟨q5, hq5⟩ : ∃ q5 : Option Addr, q5 = some ⟨w5.heap.size, 0, none⟩ := ⟨_, rfl⟩
  have HBM := Lib.hid (built_mem (some ⟨w5.heap.size, 0, none⟩))
  rw [← hq5] at HBM
  have HBA := Lib.hid (built_ans q5)
  have HSD := Lib.hid (stand_gone (some ⟨w4.heap.size, 0, none⟩) 1 [116] (memC q5) prfC undC (ansC q5) w6 (HS.out.below HB6.out) HR6.out (by decide) (mem_1 q5) (mem_size q5) prf_und prf_0 prf_1 prf_size (part_of (ans_mem q5)) (part_of (ans_und q5)) und_size)
  obtain ⟨M, hM⟩ : ∃ M, M = memC q5 := ⟨_, rfl⟩
  obtain ⟨A, hA⟩ : ∃ A, A = ansC q5 := ⟨_, rfl⟩
  rw [← hM] at HBM HBA
  rw [← hA] at HBA HSD
  clear hM hA hb46
  rw [hq5] at HBM
  clear hq5
  go_wp2_with (refine l_buildT rfl 43 _ rfl M (Hid.out ?_) (Hid.out ?_))
  refine Lib.hid ?_
  go_wp2_with (refine l_buildT rfl 45 _ rfl A (Hid.out ?_) (Hid.out ?_))
  refine Lib.hid ?_
  go_wp2_with fail
  refine HSD.out.mono ?_
  rintro e w7 ⟨q7, c7, rfl, hp, hb⟩
  have HB7 := Lib.hid (HB6.out.trans (hb.mono HB6.out.size))
  obtain ⟨b7, o7, qa, ca, rfl, hb7, d0, r0⟩ := part_at (k := 0) (V := [[7], [2]]) hp (by decide)
  obtain ⟨b8, o8, qb, cb, he, _, d1, r1⟩ := part_at (k := 1) (V := [[7], [2]]) hp (by decide)
  cases he
  have d0 : w7.cell? ⟨b7, o7 + 0, none⟩ = some (.slice qa 1 ca) := d0
  rw [Nat.add_zero] at d0
  replace d1 : w7.cell? ⟨b7, o7 + 1, none⟩ = some (.slice qb 1 cb) := d1
  have HC0 : Hid ((convert 23 9 (.slice qa 1 ca)).run Tryz.prog w7 = .ok (.string ⟨#[7]⟩) w7) := Lib.hid (run_conv_str (P := Tryz.prog) (l := [7]) r0 9 23 5 Tryz.underlying9 Tryz.underlying23 Tryz.underlying5)
  have HC1 : Hid ((convert 23 9 (.slice qb 1 cb)).run Tryz.prog w7 = .ok (.string ⟨#[2]⟩) w7) := Lib.hid (run_conv_str (P := Tryz.prog) (l := [2]) r1 9 23 5 Tryz.underlying9 Tryz.underlying23 Tryz.underlying5)
  clear hp hb r0 r1 hb7
  go_wp2_with fail
  rw [HC0.out]
  go_wp2_with fail
  rw [HC1.out]
  go_wp2_with fail
  go_ret
  exact ⟨rfl, HB7.out⟩
end Fnd
end Go.Proofs.YtmonkggoilhngaaGreatDoor

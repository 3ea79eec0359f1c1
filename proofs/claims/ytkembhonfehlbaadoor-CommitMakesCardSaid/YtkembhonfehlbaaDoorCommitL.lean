/- The walk of custumallaw17.CommitMakes. -/
import Derived.Test.YtkembhonfehlbaaDoorBinds
namespace Go.Proofs.YtkembhonfehlbaaDoor
open Go.RowKit Bits Mem Sha
namespace Ref
set_option maxRecDepth 100000 in
set_option maxHeartbeats 8000000 in
theorem commitMakes_any (k ix : List UInt8) (n : Int) (q : Option Addr) (c : Nat) (l : List UInt8) (w : World) (hS : Sha.Tabs w) (hT : Ref.Tabs w) (hk : k.length = 32) (hix : ix.length = 32) (hl : Rd w 1 (.slice q l.length c) l.length (bys l)) :
    Calls Tryd.prog 3 #[.agg (bysA k), .agg (whatA ix n (.slice q l.length c))] w fun e w' => e = .returned (.bool true) ∧ Below w.heap.size w w' := by
  have HS := Lib.hid hS
  have HT := Lib.hid hT
  have HK := Lib.hid hk
  have HX := Lib.hid hix
  obtain ⟨wz, hwz⟩ : ∃ wz, wz = (w.alloc (.cells (bysA k) 22)).alloc (.cells (whatA ix n (.slice q l.length c)) 25) := ⟨_, rfl⟩
  have hbz : Below w.heap.size w wz := by rw [hwz]; exact ((Below.refl _ _).alloc (Nat.le_refl _) _).alloc (by simp) _
  have hrk : wz.heap[w.heap.size]? = some (.cells (bysA k) 22 (0, 0)) := by rw [hwz]; exact (Rg.heap_alloc_past _ _ _ (by simp)).trans (Rg.heap_alloc_at w _ _ rfl)
  have hrx : wz.heap[w.heap.size + 1]? = some (.cells (whatA ix n (.slice q l.length c)) 25 (0, 0)) := by rw [hwz]; exact Rg.heap_alloc_at _ _ _ (by simp)
  have HWZ := Lib.hid hwz
  have HBZ := Lib.hid hbz
  have HRK := Lib.hid hrk
  have HRX := Lib.hid hrx
  have HLZ := Lib.hid (hl.below hbz)
  have HIK : Hid ((Tryd.prog.info? 22).map (·.size) = some (bysA k).size) := Lib.hid (by rw [bysA_size, hk]; exact info32)
  have HIW : Hid ((Tryd.prog.info? 25).map (·.size) = some 34) := Lib.hid (by kernel_rfl)
  have HLZ0 := Lib.hid hl
  clear hS hT hl hk hwz hbz hrk hrx
  go_enter Tryd.func3, Tryd.ntmps3
  go_wp2_with (rw [← HWZ.out]; refine l_load rfl _ _ rfl _ (what_load HRX.out HX.out) ?_)
  refine (value_any ix n q c l wz HX.out HLZ.out).mono ?_
  rintro e w2 ⟨v, rfl, hown, hb2⟩
  obtain ⟨L, hL⟩ : ∃ L, L = l.take 200 := ⟨_, rfl⟩
  have hL2 : L.length ≤ 200 := by rw [hL, List.length_take]; omega
  rw [← hL] at hown
  obtain ⟨q2, c2, rfl⟩ := Ow_form hown
  have HV := Lib.hid (Rd.of_ow hown)
  have HLE := Lib.hid hL
  have HL2 := Lib.hid hL2
  obtain ⟨O, hO⟩ : ∃ O, O = opener k ix n := ⟨_, rfl⟩
  obtain ⟨M, hM⟩ : ∃ M, M = bound O ix n L := ⟨_, rfl⟩
  have HOL : Hid (O.length = 32) := Lib.hid (by rw [hO]; exact opener_length _ _ _)
  have HML : Hid (M.length = 32) := Lib.hid (by rw [hM]; exact bound_length _ _ _ _)
  have HB2 := Lib.hid (HBZ.out.trans (hb2.mono HBZ.out.size))
  have HRK2 := Lib.hid (Rp.row_le hb2 HRK.out)
  have HRX2 := Lib.hid (Rp.row_le hb2 HRX.out)
  have HOE := Lib.hid hO
  have HME := Lib.hid hM
  clear hL hL2 hown hO hM hb2 HLZ HRK HRX HBZ HWZ
  have HIM : Hid ((Tryd.prog.info? 22).map (·.size) = some (bysA M).size) := Lib.hid (by rw [bysA_size, HML.out]; exact info32)
  have HIO : Hid ((Tryd.prog.info? 22).map (·.size) = some (bysA O).size) := Lib.hid (by rw [bysA_size, HOL.out]; exact info32)
  have c32 := what_version HRX2.out HX.out
  go_wp2_with (first | (refine wpList_load_row rfl 22 _ rfl w.heap.size rfl 22 (bysA k) (0, 0) _ HRK2.out Tryd.underlying22 rfl HIK.out ?_) | (refine l_load rfl _ _ rfl _ (what_index HRX2.out HX.out) ?_))
  have hmk := make_any k ix n q2 c2 L w2 (HS.out.below HB2.out) HK.out HX.out HV.out (by have := HL2.out; omega)
  rw [← HOE.out, ← HME.out] at hmk
  refine hmk.mono ?_
  clear hmk
  rintro e w3 ⟨rfl, hb3⟩
  obtain ⟨w4, hw4⟩ : ∃ w4, w4 = (w3.alloc (.cells (bysA zeros32) 22)).alloc (.cells (bysA zeros32) 22) := ⟨_, rfl⟩
  have hb4 : Below w3.heap.size w3 w4 := by rw [hw4]; exact ((Below.refl _ _).alloc (Nat.le_refl _) _).alloc (by simp) _
  have hr1 : w4.heap[w3.heap.size]? = some (.cells (bysA zeros32) 22 (0, 0)) := by rw [hw4]; exact (Rg.heap_alloc_past _ _ _ (by simp)).trans (Rg.heap_alloc_at _ _ _ rfl)
  have hr2 : w4.heap[w3.heap.size + 1]? = some (.cells (bysA zeros32) 22 (0, 0)) := by rw [hw4]; exact Rg.heap_alloc_at _ _ _ (by simp)
  have hr3 := (setRow_other w4 w3.heap.size (w3.heap.size + 1) (bysA M) (by omega)).trans hr2
  have hr4 := (setRow_other (w4.setRow w3.heap.size (bysA M)) (w3.heap.size + 1) w3.heap.size (bysA O) (by omega)).trans (setRow_heap w4 w3.heap.size _ (bysA M) _ _ hr1)
  have hr5 := setRow_heap (w4.setRow w3.heap.size (bysA M)) (w3.heap.size + 1) _ (bysA O) _ _ hr3
  have hb24 : Below w2.heap.size w2 w4 := hb3.trans (hb4.mono hb3.size)
  have hb25 := Rg.below_setRow (Rg.below_setRow hb24 hb3.size (bysA M)) (Nat.le_succ_of_le hb3.size) (bysA O)
  have HW4 := Lib.hid hw4
  have HR1 := Lib.hid hr1
  have HR3 := Lib.hid hr3
  have HR4 := Lib.hid hr4
  have HR5 := Lib.hid hr5
  have HB25 := Lib.hid hb25
  clear hb3 hw4 hb4 hr1 hr2 hr3 hr4 hr5 hb24 hb25 c32
  go_wp2_with (first | (rw [z32, ← HW4.out]; refine Rg.store_row rfl 22 _ _ rfl w3.heap.size rfl 22 (bysA zeros32) (bysA M) rfl HR1.out HIM.out (by rw [bysA_size, bysA_size, HML.out]; rfl) (bysA_one _) ?_) | (refine Rg.store_row rfl 22 _ _ rfl (w3.heap.size + 1) rfl 22 (bysA zeros32) (bysA O) rfl HR3.out HIO.out (by rw [bysA_size, bysA_size, HOL.out]; rfl) (bysA_one _) ?_))
  obtain ⟨w5, hw5⟩ : ∃ w5, w5 = (w4.setRow w3.heap.size (bysA M)).setRow (w3.heap.size + 1) (bysA O) := ⟨_, rfl⟩
  have hr4 := HR4.out
  have hr5 := HR5.out
  have hb5 : Below w2.heap.size w2 w5 := by rw [hw5]; exact HB25.out
  rw [← hw5] at hr4 hr5 ⊢
  have HM5 := Lib.hid hr4
  have HO5 := Lib.hid hr5
  have HB5 := Lib.hid (HB2.out.trans (hb5.mono HB2.out.size))
  have HRK5 := Lib.hid (Rp.row_le hb5 HRK2.out)
  have HRX5 := Lib.hid (Rp.row_le hb5 HRX2.out)
  have HV5 := Lib.hid (HV.out.below hb5)
  clear hr4 hr5 hb5 hw5 HR1 HR3 HR4 HR5 HB25 HW4 HV HRK2 HRX2 HB2
  have hc5 := what_version HRX5.out HX.out
  have hg5 := lt_of_heap HRX5.out
  refine Rc.region (w5.heap.size) 8 [Rc.F 7 (fun _ => .string ⟨O.toArray⟩) (fun _ _ _ => True)] [] (by kernel_rfl) (Nat.le_refl _) (by kernel_rfl) ?_; intro p; simp only [List.take_succ_cons, List.take_zero, List.take_nil, List.drop_succ_cons, List.drop_zero, List.drop_nil]
  iterate 1 (refine Rc.rK rfl rfl ?_; intro K hK; apply Exists.intro; refine ⟨?_, ?_⟩; (focus (intro x hx;  go_simp; (first | (fail) | ((try go_bits); (try go_simp); (try rfl))))); go_simp; refine hK _ ?_; clear hK K)
  refine Rc.r_str rfl rfl 23 9 _ rfl 5 Tryd.underlying9 Tryd.underlying23 Tryd.underlying5 _ _ (k) rfl (fun x hx => Rd_of_row (Rp.row_le (Rc.undrew hx) HRK5.out) HK.out (by decide)) ?_; intro K hK; go_simp; refine hK _ ?_; clear hK K
  iterate 2 (refine Rc.rK rfl rfl ?_; intro K hK; apply Exists.intro; refine ⟨?_, ?_⟩; (focus (intro x hx;  go_simp; (first | (fail) | ((try go_bits); (try go_simp); (try rfl))))); go_simp; refine hK _ ?_; clear hK K)
  refine Rc.r_str rfl rfl 23 9 _ rfl 5 Tryd.underlying9 Tryd.underlying23 Tryd.underlying5 _ _ (ix) rfl (fun x hx => what_rd (Rp.row_le (Rc.undrew hx) HRX5.out) HX.out) ?_; intro K hK; go_simp; refine hK _ ?_; clear hK K
  iterate 2 (refine Rc.rK rfl rfl ?_; intro K hK; apply Exists.intro; refine ⟨?_, ?_⟩; (focus (intro x hx; have c0x := Rc.cell_le hx hg5 hc5; go_simp; (first | (fail) | ((try go_bits); (try go_simp); (try rfl))))); go_simp; refine hK _ ?_; clear hK K)
  refine Rc.fK rfl rfl rfl rfl ?_ ?_
  · intro x Fs hx hle hg K hK
    go_wp2_with fail
    refine (refopen_any k ix n x (HT.out.below (HB5.out.trans ((Rc.undrew hx).mono HB5.out.size))) HK.out HX.out).mono ?_
    rintro e x' ⟨rfl, hb⟩
    rw [← HOE.out]
    go_wp2_with fail
    exact hK Rc.dflt x' hb (fun _ _ _ _ => trivial)
  intro K hK; go_simp; refine hK _ ?_; clear hK K
  refine Rc.done fun x Fs hx hle hg => ?_
  have HM6 := Lib.hid (Rp.row_le (Rc.undrew hx) HM5.out)
  have HO6 := Lib.hid (Rp.row_le (Rc.undrew hx) HO5.out)
  have HRX6 := Lib.hid (Rp.row_le (Rc.undrew hx) HRX5.out)
  have HV6 := Lib.hid (HV5.out.below (Rc.undrew hx))
  have HB6 := Lib.hid (HB5.out.trans ((Rc.undrew hx).mono HB5.out.size))
  clear hx hle hg hc5 hg5 HM5 HO5 HRK5 HRX5 HV5 HB5
  go_wp2_with fail
  refine NoPanic.normal ?_
  go_wp2_with fail
  have hc6 := what_version HRX6.out HX.out
  have hg6 := lt_of_heap HRX6.out
  have HCK : Hid (cchk M O ix n L = 0) := Lib.hid (by unfold cchk; rw [← HME.out, if_pos (by simp)])
  have HLL : Hid (l.take 200 = L) := Lib.hid HLE.out.symm
  refine Rc.region (x.heap.size) 40 [Rc.F 0 (fun _ => .bool true) (fun _ _ _ => True), Rc.F 18 (fun _ => .string ⟨M.toArray⟩) (fun _ _ _ => True), Rc.F 29 (fun _ => .int .i64 0) (fun _ _ _ => True), Rc.F 36 (fun p => .slice p.q L.length p.c) (fun p _ y => Rd y 1 (.slice p.q L.length p.c) L.length (bys L)), Rc.R 37 [36]] [] (by kernel_rfl) (Nat.le_refl _) (by kernel_rfl) ?_; intro p; simp only [List.take_succ_cons, List.take_zero, List.take_nil, List.drop_succ_cons, List.drop_zero, List.drop_nil]
  refine Rc.fK rfl rfl rfl rfl ?_ ?_
  · intro x Fs hx hle hg K hK
    go_wp2_with fail
    refine (binds_any x (HS.out.below (HB6.out.trans ((Rc.undrew hx).mono HB6.out.size)))).mono ?_
    rintro e x' ⟨rfl, hb⟩
    go_wp2_with fail
    exact hK Rc.dflt x' hb (fun _ _ _ _ => trivial)
  intro K hK; go_simp; refine hK _ ?_; clear hK K
  iterate 2 (refine Rc.rK rfl rfl ?_; intro K hK; apply Exists.intro; refine ⟨?_, ?_⟩; (focus (intro x hx;  go_simp; (first | (fail) | ((try go_bits); (try go_simp); (try rfl))))); go_simp; refine hK _ ?_; clear hK K)
  refine Rc.r_str rfl rfl 23 9 _ rfl 5 Tryd.underlying9 Tryd.underlying23 Tryd.underlying5 _ _ (O) rfl (fun x hx => Rd_of_row (Rp.row_le (Rc.undrew hx) HO6.out) HOL.out (by decide)) ?_; intro K hK; go_simp; refine hK _ ?_; clear hK K
  iterate 5 (refine Rc.rK rfl rfl ?_; intro K hK; apply Exists.intro; refine ⟨?_, ?_⟩; (focus (intro x hx;  go_simp; (first | (fail) | ((try go_bits); (try go_simp); (try rfl))))); go_simp; refine hK _ ?_; clear hK K)
  refine Rc.r_str rfl rfl 23 9 _ rfl 5 Tryd.underlying9 Tryd.underlying23 Tryd.underlying5 _ _ (M) rfl (fun x hx => Rd_of_row (Rp.row_le (Rc.undrew hx) HM6.out) HML.out (by decide)) ?_; intro K hK; go_simp; refine hK _ ?_; clear hK K
  iterate 3 (refine Rc.rK rfl rfl ?_; intro K hK; apply Exists.intro; refine ⟨?_, ?_⟩; (focus (intro x hx;  go_simp; (first | (fail) | ((try go_bits); (try go_simp); (try rfl))))); go_simp; refine hK _ ?_; clear hK K)
  refine Rc.r_str rfl rfl 23 9 _ rfl 5 Tryd.underlying9 Tryd.underlying23 Tryd.underlying5 _ _ (ix) rfl (fun x hx => what_rd (Rp.row_le (Rc.undrew hx) HRX6.out) HX.out) ?_; intro K hK; go_simp; refine hK _ ?_; clear hK K
  iterate 3 (refine Rc.rK rfl rfl ?_; intro K hK; apply Exists.intro; refine ⟨?_, ?_⟩; (focus (intro x hx; have c0x := Rc.cell_le hx hg6 hc6; go_simp; (first | (fail) | ((try go_bits); (try go_simp); (try rfl))))); go_simp; refine hK _ ?_; clear hK K)
  refine Rc.r_str rfl rfl 23 9 _ rfl 5 Tryd.underlying9 Tryd.underlying23 Tryd.underlying5 _ _ (L) rfl (fun x hx => HV6.out.below (Rc.undrew hx)) ?_; intro K hK; go_simp; refine hK _ ?_; clear hK K
  refine Rc.fK rfl rfl rfl rfl ?_ ?_
  · intro x Fs hx hle hg K hK
    go_wp2_with fail
    refine (refbound_any O ix n L x (HT.out.below (HB6.out.trans ((Rc.undrew hx).mono HB6.out.size))) HOL.out HX.out (by have := HL2.out; omega)).mono ?_
    rintro e x' ⟨rfl, hb⟩
    rw [← HME.out]
    go_wp2_with fail
    exact hK Rc.dflt x' hb (fun _ _ _ _ => trivial)
  intro K hK; go_simp; refine hK _ ?_; clear hK K
  iterate 3 (refine Rc.rK rfl rfl ?_; intro K hK; apply Exists.intro; refine ⟨?_, ?_⟩; (focus (intro x hx;  go_simp; (first | (fail) | ((try go_bits); (try go_simp); (try rfl))))); go_simp; refine hK _ ?_; clear hK K)
  refine Rc.r_load rfl rfl _ _ rfl (.agg (bysA M)) (fun x hx => load_mid (l := []) (r := M) (s := []) (o := 0) (by simpa using (Rp.row_le (Rc.undrew hx) HM6.out)) rfl HML.out) ?_; intro K hK; go_simp; refine hK _ ?_; clear hK K
  refine Rc.r_load rfl rfl _ _ rfl (.agg (bysA O)) (fun x hx => load_mid (l := []) (r := O) (s := []) (o := 0) (by simpa using (Rp.row_le (Rc.undrew hx) HO6.out)) rfl HOL.out) ?_; intro K hK; go_simp; refine hK _ ?_; clear hK K
  iterate 1 (refine Rc.rK rfl rfl ?_; intro K hK; apply Exists.intro; refine ⟨?_, ?_⟩; (focus (intro x hx;  go_simp; (first | (fail) | ((try go_bits); (try go_simp); (try rfl))))); go_simp; refine hK _ ?_; clear hK K)
  refine Rc.r_load rfl rfl _ _ rfl (.agg (bysA ix)) (fun x hx => what_index (Rp.row_le (Rc.undrew hx) HRX6.out) HX.out) ?_; intro K hK; go_simp; refine hK _ ?_; clear hK K
  iterate 3 (refine Rc.rK rfl rfl ?_; intro K hK; apply Exists.intro; refine ⟨?_, ?_⟩; (focus (intro x hx; have c0x := Rc.cell_le hx hg6 hc6; go_simp; (first | (fail) | ((try go_bits); (try go_simp); (try rfl))))); go_simp; refine hK _ ?_; clear hK K)
  refine Rc.fK rfl rfl rfl rfl ?_ ?_
  · intro x Fs hx hle hg K hK
    have hck := ccheck_any M O ix n q2 c2 L x (HS.out.below (HB6.out.trans ((Rc.undrew hx).mono HB6.out.size))) HML.out HOL.out HX.out (HV6.out.below (Rc.undrew hx)) (by have := HL2.out; omega)
    rw [HCK.out] at hck
    go_wp2_with fail
    refine hck.mono ?_
    rintro e x' ⟨rfl, hb⟩
    go_wp2_with fail
    exact hK Rc.dflt x' hb (fun _ _ _ _ => trivial)
  intro K hK; go_simp; refine hK _ ?_; clear hK K
  iterate 4 (refine Rc.rK rfl rfl ?_; intro K hK; apply Exists.intro; refine ⟨?_, ?_⟩; (focus (intro x hx;  go_simp; (first | (fail) | ((try go_bits); (try go_simp); (try rfl))))); go_simp; refine hK _ ?_; clear hK K)
  refine Rc.r_str rfl rfl 23 9 _ rfl 5 Tryd.underlying9 Tryd.underlying23 Tryd.underlying5 _ _ (L) rfl (fun x hx => HV6.out.below (Rc.undrew hx)) ?_; intro K hK; go_simp; refine hK _ ?_; clear hK K
  refine Rc.r_load rfl rfl _ _ rfl (.agg (whatA ix n (.slice q l.length c))) (fun x hx => what_load (Rp.row_le (Rc.undrew hx) HRX6.out) HX.out) ?_; intro K hK; go_simp; refine hK _ ?_; clear hK K
  refine Rc.fK rfl rfl rfl rfl ?_ ?_
  · intro x Fs hx hle hg K hK
    have hv := value_any ix n q c l x HX.out (HLZ0.out.below (HB6.out.trans ((Rc.undrew hx).mono HB6.out.size)))
    rw [HLL.out] at hv
    go_wp2_with fail
    refine hv.mono ?_
    rintro e x' ⟨v, rfl, hown, hb⟩
    obtain ⟨q', c', rfl⟩ := Ow_form hown
    go_wp2_with fail
    exact hK ⟨q', c', undef⟩ x' hb (fun F y hF hy => Rd.of_ow (OwF.fresh hown hle hF hy).1)
  intro K hK; go_simp; refine hK _ ?_; clear hK K
  refine Rc.g_str rfl rfl rfl 23 9 _ rfl 5 Tryd.underlying9 Tryd.underlying23 Tryd.underlying5 _ _ (L) rfl (fun x Fs hx hle hg => hg.1) ?_; intro K hK; go_simp; refine hK _ ?_; clear hK K
  iterate 2 (refine Rc.rK rfl rfl ?_; intro K hK; apply Exists.intro; refine ⟨?_, ?_⟩; (focus (intro x hx;  go_simp; (first | (fail) | ((try go_bits); (try go_simp); (try rfl))))); go_simp; refine hK _ ?_; clear hK K)
  refine Rc.done fun x Fs hx hle hg => ?_
  have HB7 := Lib.hid (HB6.out.trans ((Rc.undrew hx).mono HB6.out.size))
  clear hx hle hg
  go_wp2_with fail
  refine NoPanic.normal ?_
  go_wp2_with fail
  go_ret
  exact ⟨rfl, HB7.out⟩
end Ref
end Go.Proofs.YtkembhonfehlbaaDoor

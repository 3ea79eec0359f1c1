/- The walk of commit.Texts. -/
import Derived.Test.YtkembhonfehlbaaDoorPad17
import Derived.Test.YtkembhonfehlbaaDoorTexts17
namespace Go.Proofs.YtkembhonfehlbaaDoor
open Go.RowKit Bits Mem Sha
namespace Ref
theorem Ow.of_row {w : World} {base g : Nat} {l : List UInt8} (h : w.heap[g]? = some (.cells (bysA l) 5 (0, 0))) (hb : base ≤ g) (hm : l.length ≤ maxLen) :
    Mem.Ow w base 5 1 (.slice (some ⟨g, 0, none⟩) l.length l.length) l.length (bys l) :=
  ⟨by rw [bys_length, Nat.mul_one], .inr ⟨g, l.length, bysA l, (0, 0), rfl, hb, h, fun j _ => by simp, Nat.le_refl _, hm, by rw [bysA_size, Nat.mul_one], by rw [Nat.mul_one]; show List.take l.length (bys l) = bys l; exact List.take_of_length_le (by rw [bys_length]; exact Nat.le_refl _)⟩⟩
set_option maxRecDepth 100000 in
set_option maxHeartbeats 4000000 in
theorem ctexts_any (k ix : List UInt8) (n : Int) (q : Option Addr) (c : Nat) (l : List UInt8) (w : World) (hS : Sha.Tabs w) (hk : k.length = 32) (hix : ix.length = 32) (hl : Rd w 1 (.slice q l.length c) l.length (bys l)) (h : l.length ≤ 1000000) :
    Calls Tryd.prog 20 #[.agg (bysA k), .agg (bysA ix), .int .i64 n, .slice q l.length c] w fun e w' => ∃ g q1 c1 q2 c2, e = .returned (.slice (some ⟨g, 0, none⟩) 2 2) ∧ w.heap.size ≤ g ∧ w'.heap[g]? = some (.cells #[.slice q1 (tin k ix n l).length c1, .slice q2 (tout k ix n l).length c2] 23 (0, 0)) ∧
      Rd w' 1 (.slice q1 (tin k ix n l).length c1) (tin k ix n l).length (bys (tin k ix n l)) ∧ Rd w' 1 (.slice q2 (tout k ix n l).length c2) (tout k ix n l).length (bys (tout k ix n l)) ∧ Below w.heap.size w w' := by
  obtain ⟨i0, hi, hz0, hz1, hz2⟩ := parts3 info1
  have HS := Lib.hid hS
  have HK := Lib.hid hk
  have HX := Lib.hid hix
  obtain ⟨wz, hwz⟩ : ∃ wz, wz = (w.alloc (.cells (bysA k) 22)).alloc (.cells (bysA ix) 22) := ⟨_, rfl⟩
  have hbz : Below w.heap.size w wz := by rw [hwz]; exact ((Below.refl _ _).alloc (Nat.le_refl _) _).alloc (by simp) _
  have hrk : wz.heap[w.heap.size]? = some (.cells (bysA k) 22 (0, 0)) := by rw [hwz]; exact (Rg.heap_alloc_past _ _ _ (by simp)).trans (Rg.heap_alloc_at w _ _ rfl)
  have hrx : wz.heap[w.heap.size + 1]? = some (.cells (bysA ix) 22 (0, 0)) := by rw [hwz]; exact Rg.heap_alloc_at _ _ _ (by simp)
  have HWZ := Lib.hid hwz
  have HBZ := Lib.hid hbz
  have HRK := Lib.hid hrk
  have HRX := Lib.hid hrx
  have HLZ := Lib.hid (hl.below hbz)
  have HLL := Lib.hid h
  obtain ⟨p1, hp1⟩ : ∃ p1, p1 = padk k 54 := ⟨_, rfl⟩
  obtain ⟨p2, hp2⟩ : ∃ p2, p2 = padk k 92 := ⟨_, rfl⟩
  have HP1L : Hid (p1.length = 64) := Lib.hid (by rw [hp1]; exact padk_length _ _ (by omega))
  have HP2L : Hid (p2.length = 64) := Lib.hid (by rw [hp2]; exact padk_length _ _ (by omega))
  obtain ⟨T, hT⟩ : ∃ T, T = tin k ix n l := ⟨_, rfl⟩
  obtain ⟨U, hU⟩ : ∃ U, U = tout k ix n l := ⟨_, rfl⟩
  have HTL : Hid (T.length = 64 + 32 + 8 + l.length) := Lib.hid (by rw [hT, tin_length _ _ _ _ hk, hix]; omega)
  have HUL : Hid (U.length = 64 + 32) := Lib.hid (by rw [hU, tout_length _ _ _ _ hk])
  have HTE : Hid (p1 ++ ix ++ eight n ++ l = T) := Lib.hid (by rw [hT, hp1]; unfold tin; simp)
  have HUE : Hid (p2 ++ sha T = U) := Lib.hid (by rw [hT, hU, hp2]; unfold tout; rfl)
  rw [← hT, ← hU]
  have HP1 := Lib.hid hp1
  have HP2 := Lib.hid hp2
  clear hS hk hix hwz hbz hrk hrx hl h hp1 hp2 hT hU
  go_enter Tryd.func20, Tryd.ntmps20
  go_wp2_with fail
  rw [← HWZ.out]
  refine Rc.region (wz.heap.size) 9 [Rc.F 1 (fun p => .slice p.q 64 p.c) (fun p F y => OwF F y wz.heap.size 5 1 (.slice p.q 64 p.c) 64 (bys p1)), Rc.C 3 [1] [1] (fun p => .slice p.q 96 p.c) (fun p F y => OwF F y wz.heap.size 5 1 (.slice p.q 96 p.c) 96 (bys (p1 ++ ix))), Rc.F 5 (fun p => .slice p.q 8 p.c) (fun p _ y => Rd y 1 (.slice p.q 8 p.c) 8 (bys (eight n))), Rc.C 6 [3, 5] [3] (fun p => .slice p.q 104 p.c) (fun p F y => OwF F y wz.heap.size 5 1 (.slice p.q 104 p.c) 104 (bys (p1 ++ ix ++ eight n))), Rc.C 8 [6] [6] (fun p => .slice p.q T.length p.c) (fun p F y => OwF F y wz.heap.size 5 1 (.slice p.q T.length p.c) T.length (bys T))] [8] (by kernel_rfl) (Nat.le_refl _) (by kernel_rfl) ?_; intro p; simp only [List.take_succ_cons, List.take_zero, List.take_nil, List.drop_succ_cons, List.drop_zero, List.drop_nil]
  refine Rc.r_load rfl rfl _ _ rfl (.agg (bysA k)) (fun x hx => load_mid (l := []) (r := k) (s := []) (o := 0) (by simpa using (Rp.row_le (Rc.undrew hx) HRK.out)) rfl HK.out) ?_; intro K hK; go_simp; refine hK _ ?_; clear hK K
  refine Rc.fK rfl rfl rfl rfl ?_ ?_
  · intro x Fs hx hle hg K hK
    go_wp2_with fail
    refine (pad17_any k 54 x HK.out).mono ?_
    rintro e x' ⟨g, rfl, hgs, hrow, hb⟩
    rw [← HP1.out] at hrow
    have how := Ow.of_row hrow hgs (by rw [HP1L.out]; decide)
    rw [HP1L.out] at how
    go_wp2_with fail
    exact hK ⟨some ⟨g, 0, none⟩, 64, undef⟩ x' hb (fun F y hF hy => OwF.fresh how hle hF hy)
  intro K hK; go_simp; refine hK _ ?_; clear hK K
  iterate 1 (refine Rc.rK rfl rfl ?_; intro K hK; apply Exists.intro; refine ⟨?_, ?_⟩; (focus (intro x hx;  go_simp; (first | (fail) | ((try go_bits); (try go_simp); (try rfl))))); go_simp; refine hK _ ?_; clear hK K)
  refine Rc.cK rfl rfl rfl ?_ ?_
  · intro x Fs hx hle hg K hK
    have HO : Hid (OwF (Fs 1) x wz.heap.size 5 1 (.slice (p 1).q 64 (p 1).c) 64 (bys p1)) := Lib.hid hg.1
    have hrl := Rd_of_row (Rp.row_le (Rc.undrew hx) HRX.out) HX.out (by decide)
    refine app_ow3 rfl _ _ 23 23 rfl wz.heap.size 5 i0 (.int .u8 0) 1 1 Tryd.underlying23 hi hz0 hz1 hz2 rfl _ 64 _ rfl HO.out.1 32 _ rfl (Rd.src Tryd.underlying23 hrl (bys_one _)) (by decide) (by decide) hle ?_
    intro v' x' how hg' hor
    obtain ⟨q', c', rfl⟩ := Ow_form how
    rw [← bys_append] at how
    have how : Mem.Ow x' wz.heap.size 5 1 (.slice q' 96 c') 96 (bys (p1 ++ ix)) := how
    go_wp2_with fail
    exact hK ⟨q', c', undef⟩ x' (HO.out.eff (by simp [Rc.C]) hg') (fun y hy => HO.out.next (by simp [Rc.C]) how hor hy)
  intro K hK; go_simp; refine hK _ ?_; clear hK K
  iterate 1 (refine Rc.rK rfl rfl ?_; intro K hK; apply Exists.intro; refine ⟨?_, ?_⟩; (focus (intro x hx;  go_simp; (first | (fail) | ((try go_bits); (try go_simp); (try rfl))))); go_simp; refine hK _ ?_; clear hK K)
  refine Rc.fK rfl rfl rfl rfl ?_ ?_
  · intro x Fs hx hle hg K hK
    go_wp2_with fail
    refine (number_any n x).mono ?_
    rintro e x' ⟨v, rfl, hown, hb⟩
    obtain ⟨q', c', rfl⟩ := Ow_form hown
    go_wp2_with fail
    exact hK ⟨q', c', undef⟩ x' hb (fun F y hF hy => Rd.of_ow (OwF.fresh hown hle hF hy).1)
  intro K hK; go_simp; refine hK _ ?_; clear hK K
  refine Rc.cK rfl rfl rfl ?_ ?_
  · intro x Fs hx hle hg K hK
    have HO : Hid (OwF (Fs 3) x wz.heap.size 5 1 (.slice (p 3).q 96 (p 3).c) 96 (bys (p1 ++ ix))) := Lib.hid hg.1
    have hrl : Rd x 1 (.slice (p 5).q 8 (p 5).c) 8 (bys (eight n)) := hg.2.1
    refine app_ow3 rfl _ _ 23 23 rfl wz.heap.size 5 i0 (.int .u8 0) 1 1 Tryd.underlying23 hi hz0 hz1 hz2 rfl _ 96 _ rfl HO.out.1 8 _ rfl (Rd.src Tryd.underlying23 hrl (bys_one _)) (by decide) (by decide) hle ?_
    intro v' x' how hg' hor
    obtain ⟨q', c', rfl⟩ := Ow_form how
    rw [← bys_append] at how
    have how : Mem.Ow x' wz.heap.size 5 1 (.slice q' 104 c') 104 (bys (p1 ++ ix ++ eight n)) := how
    go_wp2_with fail
    exact hK ⟨q', c', undef⟩ x' (HO.out.eff (by simp [Rc.C]) hg') (fun y hy => HO.out.next (by simp [Rc.C]) how hor hy)
  intro K hK; go_simp; refine hK _ ?_; clear hK K
  iterate 1 (refine Rc.rK rfl rfl ?_; intro K hK; apply Exists.intro; refine ⟨?_, ?_⟩; (focus (intro x hx;  go_simp; (first | (fail) | ((try go_bits); (try go_simp); (try rfl))))); go_simp; refine hK _ ?_; clear hK K)
  refine Rc.cK rfl rfl rfl ?_ ?_
  · intro x Fs hx hle hg K hK
    have HO : Hid (OwF (Fs 6) x wz.heap.size 5 1 (.slice (p 6).q 104 (p 6).c) 104 (bys (p1 ++ ix ++ eight n))) := Lib.hid hg.1
    have hrl := HLZ.out.below (Rc.undrew hx)
    refine app_ow3 rfl _ _ 23 23 rfl wz.heap.size 5 i0 (.int .u8 0) 1 1 Tryd.underlying23 hi hz0 hz1 hz2 rfl _ 104 _ rfl HO.out.1 l.length _ rfl (Rd.src Tryd.underlying23 hrl (bys_one _)) (by have := HLL.out; unfold maxLen; omega) (by have := HLL.out; omega) hle ?_
    intro v' x' how hg' hor
    obtain ⟨q', c', rfl⟩ := Ow_form how
    rw [← bys_append, HTE.out, show 104 + l.length = T.length from HTL.out.symm] at how
    rw [show 104 + l.length = T.length from HTL.out.symm] at hor
    rw [show 104 + l.length = T.length from HTL.out.symm]
    go_wp2_with fail
    exact hK ⟨q', c', undef⟩ x' (HO.out.eff (by simp [Rc.C]) hg') (fun y hy => HO.out.next (by simp [Rc.C]) how hor hy)
  intro K hK; go_simp; refine hK _ ?_; clear hK K
  refine Rc.done fun x Fs hx hle hg => ?_
  obtain ⟨q1, hq1⟩ : ∃ q1, q1 = (p 8).q := ⟨_, rfl⟩
  obtain ⟨c1, hc1⟩ : ∃ c1, c1 = (p 8).c := ⟨_, rfl⟩
  have hot : Rd x 1 (.slice q1 T.length c1) T.length (bys T) := Rd.of_ow (by rw [hq1, hc1]; exact hg.1.1)
  have HRT := Lib.hid hot
  have HRK1 := Lib.hid (Rp.row_le (Rc.undrew hx) HRK.out)
  have HB1 := Lib.hid (HBZ.out.trans ((Rc.undrew hx).mono HBZ.out.size))
  rw [← hq1, ← hc1]
  clear hot hg hx hle hq1 hc1 HRK HRX HLZ HWZ HBZ
  go_wp2_with fail
  refine NoPanic.normal ?_
  go_wp2_with fail
  have hx2 : Below x.heap.size x (x.alloc (.cells #[.slice q1 T.length c1] 23)) := (Below.refl _ _).alloc (Nat.le_refl _) _
  have hp := parts_any (some ⟨x.heap.size, 0, none⟩) 1 [T] _ (HS.out.below (HB1.out.trans (hx2.mono HB1.out.size))) (Parts.lit1 x T _ ⟨q1, c1, rfl, HRT.out⟩) (by have := HTL.out; have := HLL.out; simp only [List.flatten_cons, List.flatten_nil, List.append_nil]; omega)
  rw [show [T].flatten = T by simp] at hp
  obtain ⟨D, hD⟩ : ∃ D, D = sha T := ⟨_, rfl⟩
  have HDL : Hid (D.length = 32) := Lib.hid (by rw [hD]; exact sha_length _)
  have HDE := Lib.hid hD
  rw [← hD] at hp
  have HX2 := Lib.hid hx2
  clear hD hx2
  refine hp.mono ?_
  clear hp
  rintro e w2 ⟨rfl, hb2⟩
  have hb2 := HX2.out.trans (hb2.mono HX2.out.size)
  have HRT2 := Lib.hid (HRT.out.below hb2)
  have HRK2 := Lib.hid (Rp.row_le hb2 HRK1.out)
  have HB2 := Lib.hid (HB1.out.trans (hb2.mono HB1.out.size))
  have HID : Hid ((Tryd.prog.info? 22).map (·.size) = some (bysA D).size) := Lib.hid (by rw [bysA_size, HDL.out]; exact info32)
  obtain ⟨w3, hw3⟩ : ∃ w3, w3 = w2.alloc (.cells (bysA zeros32) 22) := ⟨_, rfl⟩
  have hb3 : Below w2.heap.size w2 w3 := by rw [hw3]; exact (Below.refl _ _).alloc (Nat.le_refl _) _
  have hr3 : w3.heap[w2.heap.size]? = some (.cells (bysA zeros32) 22 (0, 0)) := by rw [hw3]; exact Rg.heap_alloc_at _ _ _ rfl
  have hr4 := setRow_heap w3 w2.heap.size _ (bysA D) _ _ hr3
  have hb4 := Rg.below_setRow hb3 (Nat.le_refl _) (bysA D)
  have HW3 := Lib.hid hw3
  have HR3 := Lib.hid hr3
  have HR4 := Lib.hid hr4
  have HB4 := Lib.hid hb4
  clear hb2 HRT HRK1 HB1 HX2 hw3 hb3 hr3 hr4 hb4
  go_wp2_with (rw [z32, ← HW3.out]; refine Rg.store_row rfl 22 _ _ rfl w2.heap.size rfl 22 (bysA zeros32) (bysA D) rfl HR3.out HID.out (by rw [bysA_size, bysA_size, HDL.out]; rfl) (bysA_one _) ?_)
  obtain ⟨w4, hw4⟩ : ∃ w4, w4 = w3.setRow w2.heap.size (bysA D) := ⟨_, rfl⟩
  have hb4 : Below w2.heap.size w2 w4 := by rw [hw4]; exact HB4.out
  have hr4 : w4.heap[w2.heap.size]? = some (.cells (bysA D) 22 (0, 0)) := by rw [hw4]; exact HR4.out
  rw [← hw4]
  have HRD := Lib.hid hr4
  have HRT4 := Lib.hid (HRT2.out.below hb4)
  have HRK4 := Lib.hid (Rp.row_le hb4 HRK2.out)
  have HB5 := Lib.hid (HB2.out.trans (hb4.mono HB2.out.size))
  clear hw4 hb4 hr4 HR3 HR4 HB4 HRT2 HRK2 HB2 HW3
  refine Rc.region (w4.heap.size) 6 [Rc.F 2 (fun p => .slice p.q 64 p.c) (fun p F y => OwF F y w4.heap.size 5 1 (.slice p.q 64 p.c) 64 (bys p2)), Rc.C 4 [2] [2] (fun p => .slice p.q 96 p.c) (fun p F y => Rd y 1 (.slice p.q 96 p.c) 96 (bys U)), ⟨5, [4], [], some (fun _ pj => .slice pj.q 2 2), fun p pj F y => ∃ g, pj.q = some ⟨g, 0, none⟩ ∧ w4.heap.size ≤ g ∧ y.heap[g]? = some (.cells #[.slice q1 T.length c1, .slice (p 4).q 96 (p 4).c] 23 (0, 0))⟩] [4, 5] (by kernel_rfl) (Nat.le_refl _) (by kernel_rfl) ?_; intro p; simp only [List.take_succ_cons, List.take_zero, List.take_nil, List.drop_succ_cons, List.drop_zero, List.drop_nil]
  iterate 1 (refine Rc.rK rfl rfl ?_; intro K hK; apply Exists.intro; refine ⟨?_, ?_⟩; (focus (intro x hx;  go_simp; (first | (fail) | ((try go_bits); (try go_simp); (try rfl))))); go_simp; refine hK _ ?_; clear hK K)
  refine Rc.r_load rfl rfl _ _ rfl (.agg (bysA k)) (fun x hx => load_mid (l := []) (r := k) (s := []) (o := 0) (by simpa using (Rp.row_le (Rc.undrew hx) HRK4.out)) rfl HK.out) ?_; intro K hK; go_simp; refine hK _ ?_; clear hK K
  refine Rc.fK rfl rfl rfl rfl ?_ ?_
  · intro x Fs hx hle hg K hK
    go_wp2_with fail
    refine (pad17_any k 92 x HK.out).mono ?_
    rintro e x' ⟨g, rfl, hgs, hrow, hb⟩
    rw [← HP2.out] at hrow
    have how := Ow.of_row hrow hgs (by rw [HP2L.out]; decide)
    rw [HP2L.out] at how
    go_wp2_with fail
    exact hK ⟨some ⟨g, 0, none⟩, 64, undef⟩ x' hb (fun F y hF hy => OwF.fresh how hle hF hy)
  intro K hK; go_simp; refine hK _ ?_; clear hK K
  iterate 1 (refine Rc.rK rfl rfl ?_; intro K hK; apply Exists.intro; refine ⟨?_, ?_⟩; (focus (intro x hx;  go_simp; (first | (fail) | ((try go_bits); (try go_simp); (try rfl))))); go_simp; refine hK _ ?_; clear hK K)
  refine Rc.cK rfl rfl rfl ?_ ?_
  · intro x Fs hx hle hg K hK
    have HO : Hid (OwF (Fs 2) x w4.heap.size 5 1 (.slice (p 2).q 64 (p 2).c) 64 (bys p2)) := Lib.hid hg.1
    have hrl := Rd_of_row (Rp.row_le (Rc.undrew hx) HRD.out) HDL.out (by decide)
    refine app_ow3 rfl _ _ 23 23 rfl w4.heap.size 5 i0 (.int .u8 0) 1 1 Tryd.underlying23 hi hz0 hz1 hz2 rfl _ 64 _ rfl HO.out.1 32 _ rfl (Rd.src Tryd.underlying23 hrl (bys_one _)) (by decide) (by decide) hle ?_
    intro v' x' how hg' hor
    obtain ⟨q', c', rfl⟩ := Ow_form how
    rw [← bys_append, HDE.out, HUE.out] at how
    have how : Mem.Ow x' w4.heap.size 5 1 (.slice q' 96 c') 96 (bys U) := how
    go_wp2_with fail
    exact hK ⟨q', c', undef⟩ x' (HO.out.eff (by simp [Rc.C]) hg') (fun y hy => Rd.of_ow (HO.out.next (by simp [Rc.C]) how hor hy).1)
  intro K hK; go_simp; refine hK _ ?_; clear hK K
  refine Rc.fK rfl rfl rfl rfl ?_ ?_
  · intro x Fs hx hle hg K hK
    go_wp2_with fail
    refine hK ⟨some ⟨x.heap.size, 0, none⟩, 2, undef⟩ _ ((Below.refl _ _).alloc (Nat.le_refl _) _) fun F y hF hy => ⟨x.heap.size, rfl, hle, ?_⟩
    exact (hy.block x.heap.size (by simp) (.inr (hF _ (Nat.le_refl _) (by simp)))).trans (Rg.heap_alloc_at _ _ _ rfl)
  intro K hK; go_simp; refine hK _ ?_; clear hK K
  refine Rc.done fun x Fs hx hle hg => ?_
  obtain ⟨g, hgq, hgle, hgrow⟩ : ∃ g, (p 5).q = some ⟨g, 0, none⟩ ∧ w4.heap.size ≤ g ∧ x.heap[g]? = some (.cells #[.slice q1 T.length c1, .slice (p 4).q 96 (p 4).c] 23 (0, 0)) := hg.2.1
  have hu : Rd x 1 (.slice (p 4).q 96 (p 4).c) 96 (bys U) := hg.1
  have HUU := Lib.hid hu
  have HGR := Lib.hid hgrow
  have HGL := Lib.hid hgle
  have HRT5 := Lib.hid (HRT4.out.below (Rc.undrew hx))
  have HB6 := Lib.hid (HB5.out.trans ((Rc.undrew hx).mono HB5.out.size))
  obtain ⟨c2, hc2⟩ : ∃ c2, c2 = (p 4).c := ⟨_, rfl⟩
  obtain ⟨q2, hq2⟩ : ∃ q2, q2 = (p 4).q := ⟨_, rfl⟩
  rw [← hc2, ← hq2] at HUU HGR
  rw [hgq, ← hc2, ← hq2]
  clear hu hgrow hgle hg hx hle hc2 hq2 hgq
  go_wp2_with fail
  refine NoPanic.normal ?_
  go_wp2_with fail
  go_ret
  exact ⟨g, q1, c1, q2, c2, rfl, Nat.le_trans HB5.out.size HGL.out, by rw [HUL.out]; exact HGR.out, HRT5.out, by rw [HUL.out]; exact HUU.out, HB6.out⟩
end Ref
end Go.Proofs.YtkembhonfehlbaaDoor

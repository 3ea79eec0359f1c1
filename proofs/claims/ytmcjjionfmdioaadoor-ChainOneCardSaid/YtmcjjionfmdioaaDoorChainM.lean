/- The walk of custumallaw18.ChainMakes. -/
import Derived.Test.YtmcjjionfmdioaaDoorChainN
import Derived.Test.YtmcjjionfmdioaaDoorForks
namespace Go.Proofs.YtmcjjionfmdioaaDoor
open Go.RowKit Bits Mem Sha
namespace Ref
theorem Rd_of_mid {w : World} {g o n : Nat} {l r s : List UInt8} {t : TypeId} {f : Nat × Nat} (h : w.heap[g]? = some (.cells (bysA (l ++ (r ++ s))) t f)) (ho : l.length = o) (hn : r.length = n) (hm : n ≤ maxLen) : Rd w 1 (.slice (some ⟨g, o, none⟩) n n) n (bys r) := by
  subst ho hn
  refine ⟨by rw [bys_length]; omega, .inr ⟨g, l.length, r.length, rfl, lt_of_heap h, Nat.le_refl _, hm, fun j u hu => ?_⟩⟩
  rw [cell_of_row w g _ _ _ _ h]
  have hj := (List.getElem?_eq_some_iff.1 hu).1
  rw [bys_length] at hj
  simp only [bysA, List.getElem?_toArray, bys_append]
  rw [List.getElem?_append_right (by rw [bys_length]; omega), bys_length, Nat.add_sub_cancel_left, List.getElem?_append_left (by rw [bys_length]; exact hj)]
  exact hu
theorem load_mid {w : World} {g o : Nat} {l r s : List UInt8} {t : TypeId} {f : Nat × Nat} (h : w.heap[g]? = some (.cells (bysA (l ++ (r ++ s))) t f)) (ho : l.length = o) (hn : r.length = 32) : (Instr.loadAt 25 (.pointer (some ⟨g, o, none⟩))).run Tryd.prog w = .ok (.agg (bysA r)) w := by
  subst ho
  refine run_loadAt_mid w g l.length _ (bys r) _ ?_ Tryd.underlying25 rfl ?_
  · intro j v hv
    have hj := (List.getElem?_eq_some_iff.1 hv).1
    rw [bys_length] at hj
    rw [cell_of_row w g _ _ _ _ h]
    simp only [bysA, List.getElem?_toArray, bys_append]
    rw [List.getElem?_append_right (by rw [bys_length]; omega), bys_length, Nat.add_sub_cancel_left, List.getElem?_append_left (by rw [bys_length]; exact hj)]
    exact hv
  · rw [bys_length, hn]; exact info32
set_option maxRecDepth 100000 in
set_option maxHeartbeats 4000000 in
theorem chainMakes_any (q : Option Addr) (c : Nat) (l : List UInt8) (n : Int) (r0 r1 : List UInt8) (w : World) (hS : Sha.Tabs w) (hR : Ref.Tabs w) (hl : Rd w 1 (.slice q l.length c) l.length (bys l)) (h0 : r0.length = 32) (h1 : r1.length = 32) :
    Calls Tryd.prog 6 #[.slice q l.length c, .int .i64 n, .agg (bysA (r0 ++ r1))] w fun e w' => e = .returned (.bool true) ∧ Below w.heap.size w w' := by
  obtain ⟨i0, hi, hz0, hz1, hz2⟩ := parts3 info1
  have HS := Lib.hid hS
  have HR := Lib.hid hR
  have hcap := Rd_cap hl
  have H0 := Lib.hid h0
  have H1 := Lib.hid h1
  have hmin : (if (300 : Int) < (l.length : Int) then (300 : Int) else (l.length : Int)) = ((min l.length 300 : Nat) : Int) := by split <;> omega
  obtain ⟨wp, hwp⟩ : ∃ wp, wp = w.alloc (.cells (bysA (r0 ++ r1)) 34) := ⟨_, rfl⟩
  have hbp : Below w.heap.size w wp := by rw [hwp]; exact (Below.refl _ _).alloc (Nat.le_refl _) _
  have hrp : wp.heap[w.heap.size]? = some (.cells (bysA (r0 ++ r1)) 34 (0, 0)) := by rw [hwp]; exact Rg.heap_alloc_at w _ _ rfl
  have hx1 : Below wp.heap.size wp (wp.alloc (.cells #[] 5)) := (Below.refl _ _).alloc (Nat.le_refl _) _
  have ho1 : Ow (wp.alloc (.cells #[] 5)) wp.heap.size 5 1 (.slice (some ⟨wp.heap.size, 0, none⟩) 0 0) 0 [] := Ow.lit wp #[] 5 1 0 wp.heap.size (Nat.le_refl _) (Nat.zero_le _) rfl
  have hrd1 := ((Rd_take hl (Nat.min_le_left l.length 300)).below hbp).below hx1
  have hwps : wp.heap.size = w.heap.size + 1 := by rw [hwp]; simp
  have HWP := Lib.hid hwp
  have HWPS := Lib.hid hwps
  have HBP := Lib.hid hbp
  have HRP := Lib.hid hrp
  have HO1 := Lib.hid ho1
  have HX1 := Lib.hid hx1
  have HRD1 := Lib.hid hrd1
  clear hS hR hl h0 h1 hwp hbp hrp hx1 ho1 hrd1 hwps
  go_enter Tryd.func6, Tryd.ntmps6
  go_wp2_with (at_builtin; rw [← HWP.out, ← HWPS.out]; go_must (refine app_empty rfl _ _ 28 28 rfl wp.heap.size 5 i0 (.int .u8 0) 1 1 Tryd.underlying28 hi hz0 hz1 hz2 rfl _ rfl HO1.out _ _ _ rfl (Rd.src Tryd.underlying28 HRD1.out (bys_one _)) (by unfold maxLen; omega) (by omega) (by simp) ?_); go_must (intro w1v w1 how1 hb1); go_must (obtain ⟨q1, c1, rfl⟩ := Ow_form how1))
  have h01 : Below wp.heap.size wp w1 := HX1.out.trans (hb1.mono HX1.out.size)
  have hrk := Rd.of_ow how1
  obtain ⟨k, hk⟩ : ∃ k, k = l.take (min l.length 300) := ⟨_, rfl⟩
  have hkl : min l.length 300 = k.length := by rw [hk, List.length_take]; omega
  have hk300 : k.length ≤ 300 := by omega
  rw [← hk] at hrk
  rw [hkl] at hrk ⊢
  have HRK1 := Lib.hid hrk
  have HB1 := Lib.hid (HBP.out.trans (h01.mono HBP.out.size))
  have HRP1 : Hid (w1.heap[w.heap.size]? = some (.cells (bysA (r0 ++ r1)) 34 (0, 0))) := Lib.hid (Rp.row_le h01 HRP.out)
  have hrun := run_conv_str (P := Tryd.prog) HRK1.out 9 28 5 Tryd.underlying9 Tryd.underlying28 Tryd.underlying5
  rw [hrun]
  clear hk hkl hrk h01 how1 hb1 hmin HO1 HX1 HRD1 HWP HWPS HBP HRP hcap hrun
  go_wp2_with fail
  refine (first_any _ _ k _ (HS.out.below HB1.out) HRK1.out (by omega)).mono ?_
  rintro e w2 ⟨rfl, hb2⟩
  have HB2 := Lib.hid (HB1.out.trans (hb2.mono HB1.out.size))
  have HRK2 := Lib.hid (HRK1.out.below hb2)
  have HRP2 := Lib.hid (Rp.row_le hb2 HRP1.out)
  have HL1 : Hid ((firstLink k).length = 32) := Lib.hid (sha_length _)
  have HI1 : Hid ((Tryd.prog.info? 25).map (·.size) = some (bysA (firstLink k)).size) := Lib.hid (by rw [bysA_size, HL1.out]; exact info32)
  clear hb2
  have hx3 : Below w2.heap.size w2 (w2.alloc (.cells (bysA (firstLink k)) 25)) := (Below.refl _ _).alloc (Nat.le_refl _) _
  have HX3 := Lib.hid hx3
  have HRF := Lib.hid (Rg.heap_alloc_at w2 (.cells (bysA (firstLink k)) 25) w2.heap.size rfl)
  have HRP3 := Lib.hid (Rp.row_le hx3 HRP2.out)
  have HLD0 := Lib.hid (load_mid (l := []) (r := r0) (s := r1) HRP3.out rfl H0.out)
  have HLD1 := Lib.hid (load_mid (l := r0) (r := r1) (s := []) (by simpa using HRP3.out) H0.out H1.out)
  clear hx3
  go_wp2_with (first | (refine Rg.store_row_new rfl 25 _ _ rfl w2.heap.size rfl rfl 25 _ (bysA (firstLink k)) rfl HI1.out (by rw [bysA_size, HL1.out]; rfl) (bysA_one _) ?_) | (refine Mem.l_load rfl 25 _ rfl _ HLD0.out ?_) | (refine Mem.l_load rfl 25 _ rfl _ HLD1.out ?_))
  obtain ⟨w3, hw3⟩ : ∃ w3, w3 = w2.alloc (.cells (bysA (firstLink k)) 25) := ⟨_, rfl⟩
  rw [← hw3] at HX3 HRF HRP3 ⊢
  have HB3 := Lib.hid (HB2.out.trans (HX3.out.mono HB2.out.size))
  have HRK3 := Lib.hid (HRK2.out.below HX3.out)
  clear HLD0 HLD1 hw3 HRK1 HB1 HRP1 HRP2
  refine (next_any _ _ k n r0 r1 _ (HS.out.below HB3.out) HRK3.out (by omega) H0.out H1.out).mono ?_
  rintro e w4 ⟨rfl, hb4⟩
  have HB4 := Lib.hid (HB3.out.trans (hb4.mono HB3.out.size))
  have HRK4 := Lib.hid (HRK3.out.below hb4)
  have HRP4 := Lib.hid (Rp.row_le hb4 HRP3.out)
  have HRF4 := Lib.hid (Rp.row_le hb4 HRF.out)
  have HL2 : Hid ((nextLink k n r0 r1).length = 32) := Lib.hid (nextLink_length _ _ _ _)
  have HI2 : Hid ((Tryd.prog.info? 25).map (·.size) = some (bysA (nextLink k n r0 r1)).size) := Lib.hid (by rw [bysA_size, HL2.out]; exact info32)
  have HN4 := Lib.hid (lt_of_heap HRF4.out)
  obtain ⟨R, hR⟩ : ∃ R, R = nextLink k n r0 r1 := ⟨_, rfl⟩
  rw [← hR] at HL2 HI2 ⊢
  have HRR := Lib.hid hR
  clear hb4 HRK3 HRP3 HRF hR
  go_wp2_with (refine Rg.store_row_new rfl 25 _ _ rfl w4.heap.size rfl rfl 25 _ (bysA R) rfl HI2.out (by rw [bysA_size, HL2.out]; rfl) (bysA_one _) ?_)
  have hx5 : Below w4.heap.size w4 (w4.alloc (.cells (bysA R) 25)) := (Below.refl _ _).alloc (Nat.le_refl _) _
  have HRN5 := Lib.hid (Rg.heap_alloc_at w4 (.cells (bysA R) 25) w4.heap.size rfl)
  obtain ⟨w5, hw5⟩ : ∃ w5, w5 = w4.alloc (.cells (bysA R) 25) := ⟨_, rfl⟩
  rw [← hw5] at hx5 HRN5 ⊢
  have HB5 := Lib.hid (HB4.out.trans (hx5.mono HB4.out.size))
  have HRK5 := Lib.hid (HRK4.out.below hx5)
  have HRP5 := Lib.hid (Rp.row_le hx5 HRP4.out)
  have HRF5 := Lib.hid (Rp.row_le hx5 HRF4.out)
  clear hx5 hw5 HRK4 HRP4 HRF4 HRK2 HX3 HB2 HB3
  refine Rp.region 9 [(0, true), (1, true), (2, true), (3, true), (4, true), (5, true), (6, true), (7, true), (8, false)] (by kernel_rfl) (by kernel_rfl) ?_; simp only [Rp.pick, Rp.nth, List.drop_succ_cons, List.drop_zero]
  repeat (refine Rp.stepK rfl ?_; intro K hK; apply Exists.intro; refine ⟨?_, ?_⟩; (focus (intro x hx;  go_simp; (first | (fail) | ((try go_bits); (try go_simp); (try rfl))))); go_simp; refine hK _ ?_; clear hK K)
  refine Rp.s_str rfl 28 9 _ rfl 5 Tryd.underlying9 Tryd.underlying28 Tryd.underlying5 _ _ (r0) rfl (Rd_of_mid (l := []) (r := r0) (s := r1) HRP5.out rfl H0.out (by decide)) ?_; intro K hK; go_simp; refine hK _ ?_; clear hK K
  repeat (refine Rp.stepK rfl ?_; intro K hK; apply Exists.intro; refine ⟨?_, ?_⟩; (focus (intro x hx;  go_simp; (first | (fail) | ((try go_bits); (try go_simp); (try rfl))))); go_simp; refine hK _ ?_; clear hK K)
  refine Rp.s_str rfl 28 9 _ rfl 5 Tryd.underlying9 Tryd.underlying28 Tryd.underlying5 _ _ (r1) rfl (Rd_of_mid (l := r0) (r := r1) (s := []) (by rw [List.append_nil]; exact HRP5.out) H0.out H1.out (by decide)) ?_; intro K hK; go_simp; refine hK _ ?_; clear hK K
  repeat (refine Rp.stepK rfl ?_; intro K hK; apply Exists.intro; refine ⟨?_, ?_⟩; (focus (intro x hx;  go_simp; (first | (fail) | ((try go_bits); (try go_simp); (try rfl))))); go_simp; refine hK _ ?_; clear hK K)
  refine Rp.stepF fun K hK => ?_
  go_wp2_with fail
  refine (reftext_any k n r0 r1 (by omega) H0.out H1.out _).mono ?_
  rintro e w6 ⟨rfl, hb6⟩
  have htl := linkText_length k n r0 r1 H0.out H1.out
  have HSR : Hid (sha (linkText k n r0 r1) = R) := Lib.hid HRR.out.symm
  obtain ⟨T, hT⟩ : ∃ T, T = linkText k n r0 r1 := ⟨_, rfl⟩
  rw [← hT] at htl HSR ⊢
  have hTl : T.length ≤ 1000075 := by omega
  have HT := Lib.hid hT
  clear hT htl
  have hb56 : Below w5.heap.size w5 w6 := (Below.refl _ _).drew.trans hb6
  have HB6 := Lib.hid (HB5.out.trans (hb56.mono HB5.out.size))
  have HRK6 := Lib.hid (HRK5.out.below hb56)
  have HRN6 := Lib.hid (Rp.row_le hb56 HRN5.out)
  have HRP6 := Lib.hid (Rp.row_le hb56 HRP5.out)
  have HRF6 := Lib.hid (Rp.row_le hb56 HRF5.out)
  go_wp2_with fail
  refine hK _ _ hb6 ?_; clear hK K
  clear hb6 hb56 HRK5 HRN5 HRP5 HRF5 HB5
  refine Rp.done ?_; go_wp2_with fail; refine NoPanic.normal ?_; go_wp2_with fail
  refine Rp.region 33 [(0, false), (1, true), (2, true), (3, true), (4, true), (5, false), (6, true), (7, true), (8, true), (9, true), (10, true), (11, true), (12, true), (13, true), (14, true), (17, true), (15, false), (16, true), (18, true), (19, true), (20, true), (21, true), (22, true), (23, true), (24, false), (25, true), (26, true), (27, true), (28, true), (29, true), (30, true), (31, true), (32, true)] (by kernel_rfl) (by kernel_rfl) ?_; simp only [Rp.pick, Rp.nth, List.drop_succ_cons, List.drop_zero]
  refine Rp.stepF fun K hK => ?_
  go_wp2_with fail
  have hx6 : Below w6.heap.size w6 w6.drew := (Below.refl _ _).drew
  refine (chains_any _ (HS.out.below (HB6.out.trans (hx6.mono HB6.out.size))) (HR.out.below (HB6.out.trans (hx6.mono HB6.out.size)))).mono ?_
  rintro e w7 ⟨rfl, hb7⟩
  have hb67 : Below w6.heap.size w6 w7 := hx6.trans hb7
  have HB7 := Lib.hid (HB6.out.trans (hb67.mono HB6.out.size))
  have HRK7 := Lib.hid (HRK6.out.below hb67)
  have HRN7 := Lib.hid (Rp.row_le hb67 HRN6.out)
  have HRP7 := Lib.hid (Rp.row_le hb67 HRP6.out)
  have HRF7 := Lib.hid (Rp.row_le hb67 HRF6.out)
  go_wp2_with fail
  refine hK _ _ hb7 ?_; clear hK K
  clear hb7 hb67 hx6 HRK6 HRN6 HRP6 HRF6 HB6
  repeat (refine Rp.stepK rfl ?_; intro K hK; apply Exists.intro; refine ⟨?_, ?_⟩; (focus (intro x hx;  go_simp; (first | (fail) | ((try go_bits); (try go_simp); (try rfl))))); go_simp; refine hK _ ?_; clear hK K)
  refine Rp.s_str rfl 28 9 _ rfl 5 Tryd.underlying9 Tryd.underlying28 Tryd.underlying5 _ _ (firstLink k) rfl (Rd_of_row HRF7.out HL1.out (by decide)) ?_; intro K hK; go_simp; refine hK _ ?_; clear hK K
  repeat (refine Rp.stepK rfl ?_; intro K hK; apply Exists.intro; refine ⟨?_, ?_⟩; (focus (intro x hx;  go_simp; (first | (fail) | ((try go_bits); (try go_simp); (try rfl))))); go_simp; refine hK _ ?_; clear hK K)
  refine Rp.stepF fun K hK => ?_
  go_wp2_with fail
  refine (reffirst_any k (by omega) _ (HR.out.below HB7.out)).mono ?_
  rintro e w8 ⟨rfl, hb8⟩
  have HB8 := Lib.hid (HB7.out.trans (hb8.mono HB7.out.size))
  have HRK8 := Lib.hid (HRK7.out.below hb8)
  have HRN8 := Lib.hid (Rp.row_le hb8 HRN7.out)
  have HRP8 := Lib.hid (Rp.row_le hb8 HRP7.out)
  have HRF8 := Lib.hid (Rp.row_le hb8 HRF7.out)
  go_wp2_with fail
  refine hK _ _ hb8 ?_; clear hK K
  clear hb8 HRK7 HRN7 HRP7 HRF7 HB7
  repeat (refine Rp.stepK rfl ?_; intro K hK; apply Exists.intro; refine ⟨?_, ?_⟩; (focus (intro x hx;  go_simp; (first | (fail) | ((try go_bits); (try go_simp); (try rfl))))); go_simp; refine hK _ ?_; clear hK K)
  refine Rp2.s_load rfl 25 _ rfl (.agg (bysA r0)) (fun x hx => load_mid (l := []) (r := r0) (s := r1) (Rp.row_le hx HRP8.out) rfl H0.out) ?_
  intro K hK; go_simp; refine hK _ ?_; clear hK K
  repeat (refine Rp.stepK rfl ?_; intro K hK; apply Exists.intro; refine ⟨?_, ?_⟩; (focus (intro x hx;  go_simp; (first | (fail) | ((try go_bits); (try go_simp); (try rfl))))); go_simp; refine hK _ ?_; clear hK K)
  refine Rp2.s_load rfl 25 _ rfl (.agg (bysA r1)) (fun x hx => load_mid (l := r0) (r := r1) (s := []) (by rw [List.append_nil]; exact Rp.row_le hx HRP8.out) H0.out H1.out) ?_
  intro K hK; go_simp; refine hK _ ?_; clear hK K
  repeat (refine Rp.stepK rfl ?_; intro K hK; apply Exists.intro; refine ⟨?_, ?_⟩; (focus (intro x hx;  go_simp; (first | (fail) | ((try go_bits); (try go_simp); (try rfl))))); go_simp; refine hK _ ?_; clear hK K)
  refine Rp.stepF fun K hK => ?_
  go_wp2_with fail
  refine (ctext_any _ _ k n r0 r1 _ HRK8.out (by omega) H0.out H1.out).mono ?_
  rintro e w9 ⟨v, rfl, hown, hb9⟩
  have HO9 := Lib.hid (Rd.of_ow hown)
  obtain ⟨qt, ct, rfl⟩ := Ow_form hown
  have HB9 := Lib.hid (HB8.out.trans (hb9.mono HB8.out.size))
  have HRK9 := Lib.hid (HRK8.out.below hb9)
  have HRN9 := Lib.hid (Rp.row_le hb9 HRN8.out)
  rw [← HT.out] at HO9 ⊢
  go_wp2_with fail
  refine hK _ _ hb9 ?_; clear hK K
  clear hb9 hown HRK8 HRN8 HRP8 HRF8 HB8
  repeat (refine Rp.stepK rfl ?_; intro K hK; apply Exists.intro; refine ⟨?_, ?_⟩; (focus (intro x hx;  go_simp; (first | (fail) | ((try go_bits); (try go_simp); (try rfl))))); go_simp; refine hK _ ?_; clear hK K)
  refine Rp.s_str rfl 28 9 _ rfl 5 Tryd.underlying9 Tryd.underlying28 Tryd.underlying5 _ _ (T) rfl (HO9.out) ?_; intro K hK; go_simp; refine hK _ ?_; clear hK K
  repeat (refine Rp.stepK rfl ?_; intro K hK; apply Exists.intro; refine ⟨?_, ?_⟩; (focus (intro x hx;  go_simp; (first | (fail) | ((try go_bits); (try go_simp); (try rfl))))); go_simp; refine hK _ ?_; clear hK K)
  refine Rp.s_str rfl 28 9 _ rfl 5 Tryd.underlying9 Tryd.underlying28 Tryd.underlying5 _ _ (R) rfl (Rd_of_row HRN9.out HL2.out (by decide)) ?_; intro K hK; go_simp; refine hK _ ?_; clear hK K
  repeat (refine Rp.stepK rfl ?_; intro K hK; apply Exists.intro; refine ⟨?_, ?_⟩; (focus (intro x hx;  go_simp; (first | (fail) | ((try go_bits); (try go_simp); (try rfl))))); go_simp; refine hK _ ?_; clear hK K)
  refine Rp.stepF fun K hK => ?_
  go_wp2_with fail
  refine (sum_any ⟨T.toArray⟩ T (by rfl) _ (HR.out.below HB9.out) (by omega)).mono ?_
  rintro e w10 ⟨rfl, hb10⟩
  have HB10 := Lib.hid (HB9.out.trans (hb10.mono HB9.out.size))
  have HRK10 := Lib.hid (HRK9.out.below hb10)
  rw [HSR.out]
  go_wp2_with fail
  refine hK _ _ hb10 ?_; clear hK K
  clear hb10 HRK9 HRN9 HO9 HB9
  repeat (refine Rp.stepK rfl ?_; intro K hK; apply Exists.intro; refine ⟨?_, ?_⟩; (focus (intro x hx;  go_simp; (first | (fail) | ((try go_bits); (try go_simp); (try rfl))))); go_simp; refine hK _ ?_; clear hK K)
  refine Rp.s_str rfl 28 9 _ rfl 5 Tryd.underlying9 Tryd.underlying28 Tryd.underlying5 _ _ (k) rfl (HRK10.out) ?_; intro K hK; go_simp; refine hK _ ?_; clear hK K
  repeat (refine Rp.stepK rfl ?_; intro K hK; apply Exists.intro; refine ⟨?_, ?_⟩; (focus (intro x hx;  go_simp; (first | (fail) | ((try go_bits); (try go_simp); (try rfl))))); go_simp; refine hK _ ?_; clear hK K)
  refine Rp.done ?_; go_wp2_with fail; refine NoPanic.normal ?_; go_wp2_with fail
  go_ret
  exact ⟨rfl, HB10.out⟩
end Ref
end Go.Proofs.YtmcjjionfmdioaaDoor

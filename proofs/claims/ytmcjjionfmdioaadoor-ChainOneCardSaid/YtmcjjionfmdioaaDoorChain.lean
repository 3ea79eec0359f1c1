/- The walks of package chain and of its reference. -/
import Derived.Test.YtmcjjionfmdioaaDoorKeys
import Derived.Test.YtmcjjionfmdioaaDoorPure
namespace Go.Proofs.YtmcjjionfmdioaaDoor
open Go.RowKit Bits Mem Sha
namespace Ref
def two (n : Nat) : List UInt8 := [UInt8.ofNat (n / 256), UInt8.ofNat n]
def linkText (id : List UInt8) (n : Int) (root ahead : List UInt8) : List UInt8 := 3 :: (two id.length ++ id ++ eight n ++ root ++ ahead)
def firstLink (id : List UInt8) : List UInt8 := sha (4 :: id)
theorem linkText_length (id : List UInt8) (n : Int) (root ahead : List UInt8) (hr : root.length = 32) (ha : ahead.length = 32) : (linkText id n root ahead).length = id.length + 75 := by
  simp [linkText, two, eight_length, hr, ha]
set_option maxRecDepth 100000 in
set_option maxHeartbeats 1000000 in
theorem one_any (n : Nat) (hn : n < 9223372036854775808) (w : World) :
    Calls Tryd.prog 56 #[.int .i64 (n : Int)] w fun e w' => e = .returned (.string ⟨[UInt8.ofNat n].toArray⟩) ∧ Below w.heap.size w w' := by
  obtain ⟨x, hx⟩ : ∃ x, x = UInt8.ofNat n := ⟨_, rfl⟩
  have hb : (n : Int) % 256 = (x.toNat : Int) := by rw [hx, UInt8.toNat_ofNat']; omega
  have HR : Hid (∀ w1 : World, Rd (w1.alloc (.cells #[.int .u8 (x.toNat : Int)] 5)) 1 (.slice (some ⟨w1.heap.size, 0, none⟩) 1 1) 1 (bys [x])) := Lib.hid (fun w1 => Rd_lit w1 #[.int .u8 (x.toNat : Int)] 5 1 1 rfl (by decide))
  rw [← hx]
  clear hx
  go_enter Tryd.func56, Tryd.ntmps56
  go_wp2_with (refine conv_str rfl 28 9 _ rfl 5 Tryd.underlying9 Tryd.underlying28 Tryd.underlying5 _ 1 [x] rfl (HR.out w) ?_)
  go_ret
  exact ⟨rfl, (Below.refl _ _).alloc (Nat.le_refl _) _⟩
set_option maxRecDepth 100000 in
set_option maxHeartbeats 1000000 in
theorem text4_any (l : List UInt8) (hl : l.length ≤ 1000000) (w : World) :
    Calls Tryd.prog 50 #[.string ⟨l.toArray⟩] w fun e w' => e = .returned (.string ⟨(two l.length ++ l).toArray⟩) ∧ Below w.heap.size w w' := by
  obtain ⟨q, hq⟩ : ∃ q : Nat, q = l.length / 256 := ⟨_, rfl⟩
  have hd : (l.length : Int) / 256 = (q : Int) := by omega
  have hq1 : q < 9223372036854775808 := by omega
  have HQ := Lib.hid hq
  clear hq
  go_enter Tryd.func50, Tryd.ntmps50
  go_wp2_with fail
  refine (one_any q hq1 _).mono ?_
  rintro e w1 ⟨rfl, hb1⟩
  go_wp2_with fail
  refine (one_any l.length (by omega) _).mono ?_
  rintro e w2 ⟨rfl, hb2⟩
  have HB := Lib.hid (hb1.trans (hb2.mono hb1.size))
  clear hb1 hb2
  go_wp2_with fail
  go_ret
  exact ⟨by unfold two; rw [← HQ.out]; rfl, HB.out⟩
set_option maxRecDepth 100000 in
set_option maxHeartbeats 1000000 in
theorem reffirst_any (l : List UInt8) (hl : l.length ≤ 1000000) (w : World) (hR : Ref.Tabs w) :
    Calls Tryd.prog 25 #[.string ⟨l.toArray⟩] w fun e w' => e = .returned (.string ⟨(firstLink l).toArray⟩) ∧ Below w.heap.size w w' := by
  have HR := Lib.hid hR; clear hR
  go_enter Tryd.func25, Tryd.ntmps25
  go_wp2_with fail
  refine (sum_any ⟨(4 :: l).toArray⟩ (4 :: l) (by rfl) _ HR.out (by rw [List.length_cons]; omega)).mono ?_
  rintro e w1 ⟨rfl, hb1⟩
  go_wp2_with fail
  go_ret
  exact ⟨rfl, hb1⟩
set_option maxRecDepth 100000 in
set_option maxHeartbeats 1000000 in
theorem reftext_any (id : List UInt8) (n : Int) (root ahead : List UInt8) (hl : id.length ≤ 1000000) (hr : root.length = 32) (ha : ahead.length = 32) (w : World) :
    Calls Tryd.prog 23 #[.string ⟨id.toArray⟩, .int .i64 n, .string ⟨root.toArray⟩, .string ⟨ahead.toArray⟩] w fun e w' => e = .returned (.string ⟨(linkText id n root ahead).toArray⟩) ∧ Below w.heap.size w w' := by
  have hel := eight_length n
  have htl : (two id.length).length = 2 := rfl
  go_enter Tryd.func23, Tryd.ntmps23
  go_wp2_with fail
  refine (text4_any id hl _).mono ?_
  rintro e w1 ⟨rfl, hb1⟩
  go_wp2_with fail
  refine (eight_any n _).mono ?_
  rintro e w2 ⟨rfl, hb2⟩
  have HB := Lib.hid (hb1.trans (hb2.mono hb1.size))
  have hle : (eight n).length ≤ 8 := by omega
  have hlt2 : (two id.length).length ≤ 2 := by rw [htl]; exact Nat.le_refl _
  have HEQ : Hid (3 :: (two id.length ++ (id ++ (eight n ++ (root ++ ahead)))) = linkText id n root ahead) := Lib.hid (by unfold linkText; simp)
  obtain ⟨E, hE⟩ : ∃ E, E = eight n := ⟨_, rfl⟩
  obtain ⟨T, hT⟩ : ∃ T, T = two id.length := ⟨_, rfl⟩
  rw [← hE] at hle HEQ ⊢
  rw [← hT] at hlt2 HEQ ⊢
  have hr' : root.length ≤ 32 := by omega
  have ha' : ahead.length ≤ 32 := by omega
  clear hel htl hb1 hb2 hE hT hr ha
  go_wp2_with fail
  go_ret
  exact ⟨by rw [← HEQ.out]; rfl, HB.out⟩
set_option maxRecDepth 100000 in
set_option maxHeartbeats 1000000 in
theorem first_any (q : Option Addr) (c : Nat) (l : List UInt8) (w : World) (hS : Sha.Tabs w) (hl : Rd w 1 (.slice q l.length c) l.length (bys l)) (h : l.length ≤ 1000000) :
    Calls Tryd.prog 21 #[.slice q l.length c] w fun e w' => e = .returned (.agg (bysA (firstLink l))) ∧ Below w.heap.size w w' := by
  have HS := Lib.hid hS
  have HL := Lib.hid hl
  clear hS hl
  go_enter Tryd.func21, Tryd.ntmps21
  go_wp2_with fail
  rw [z32]
  have hrz : (w.alloc (.cells (bysA zeros32) 25)).heap[w.heap.size]? = some (.cells (bysA zeros32) 25 (0, 0)) := Rg.heap_alloc_at w _ _ rfl
  have hw1 : Below w.heap.size w (w.alloc (.cells (bysA zeros32) 25)) := (Below.refl _ _).alloc (Nat.le_refl _) _
  obtain ⟨w1, hw1e⟩ : ∃ w1, w1 = w.alloc (.cells (bysA zeros32) 25) := ⟨_, rfl⟩
  have hs1 : w1.heap.size = w.heap.size + 1 := by rw [hw1e]; simp
  rw [← hw1e] at hrz hw1
  rw [← hw1e]
  have hx2 : Below w1.heap.size w1 (w1.alloc (.cells #[.int .u8 4] 5)) := (Below.refl _ _).alloc (Nat.le_refl _) _
  have hr4 : Rd (w1.alloc (.cells #[.int .u8 4] 5)) 1 (.slice (some ⟨w1.heap.size, 0, none⟩) 1 1) 1 (bys [4]) := Rd_lit w1 #[.int .u8 4] 5 1 1 rfl (by decide)
  obtain ⟨w2, hw2e⟩ : ∃ w2, w2 = w1.alloc (.cells #[.int .u8 4] 5) := ⟨_, rfl⟩
  have hs2 : w2.heap.size = w.heap.size + 1 + 1 := by rw [hw2e, World.size_alloc, hs1]
  rw [← hw2e] at hx2 hr4
  rw [← hw2e, ← hs2, ← hs1]
  have h2 : Below w.heap.size w w2 := hw1.trans (hx2.mono hw1.size)
  have hp := Parts.lit2 w2 [4] l _ _ ⟨_, _, rfl, hr4⟩ ⟨_, _, rfl, HL.out.below h2⟩
  have hx3 : Below w2.heap.size w2 (w2.alloc (.cells #[.slice (some ⟨w1.heap.size, 0, none⟩) 1 1, .slice q l.length c] 28)) := (Below.refl _ _).alloc (Nat.le_refl _) _
  have hs := parts_any _ _ [[4], l] _ (HS.out.below (h2.trans (hx3.mono h2.size))) hp (by simp; omega)
  rw [show [[4], l].flatten = 4 :: l from by simp] at hs
  have HB2 := Lib.hid h2
  have HX3 := Lib.hid hx3
  have HRZ := Lib.hid (Rp.row_le hx2 hrz)
  clear hw1e hw2e hs1 hs2 hp hrz hw1 hx2 hr4 h2 hx3
  refine hs.mono ?_
  clear hs
  rintro e w3 ⟨rfl, hb3⟩
  have h23 : Below w2.heap.size w2 w3 := HX3.out.trans (hb3.mono HX3.out.size)
  have HB3 := Lib.hid (HB2.out.trans (h23.mono HB2.out.size))
  have HRZ3 := Lib.hid (Rp.row_le h23 HRZ.out)
  have HM := Lib.hid (sha_length (4 :: l))
  obtain ⟨R, hR⟩ : ∃ R, R = sha (4 :: l) := ⟨_, rfl⟩
  rw [← hR] at HM ⊢
  have HRR : Hid (R = firstLink l) := Lib.hid hR
  have HIM : Hid ((Tryd.prog.info? 25).map (·.size) = some (bysA R).size) := Lib.hid (by rw [bysA_size, HM.out]; exact info32)
  clear hR hb3 h23 HX3 HRZ
  go_wp2_with (refine Rg.store_row rfl 25 _ _ rfl w.heap.size rfl 25 (bysA zeros32) (bysA R) rfl HRZ3.out HIM.out (by rw [bysA_size, bysA_size, HM.out]; rfl) (bysA_one _) ?_)
  refine bodyPost_ret (v := .agg (bysA R)) (results_cell_row (P := Tryd.prog) rfl _ _ w.heap.size 25 (bysA R) (0, 0) _ rfl (setRow_heap _ _ _ _ 25 _ HRZ3.out) Tryd.underlying25 rfl HIM.out) rfl ⟨by rw [HRR.out], ?_⟩
  exact Rg.below_setRow HB3.out (Nat.le_refl _) _
set_option maxRecDepth 100000 in
set_option maxHeartbeats 4000000 in
theorem ctext_any (q : Option Addr) (c : Nat) (l : List UInt8) (n : Int) (root ahead : List UInt8) (w : World) (hl : Rd w 1 (.slice q l.length c) l.length (bys l)) (h : l.length ≤ 1000000) (hr : root.length = 32) (ha : ahead.length = 32) :
    Calls Tryd.prog 26 #[.slice q l.length c, .int .i64 n, .agg (bysA root), .agg (bysA ahead)] w fun e w' => ∃ v, e = .returned v ∧ Ow w' w.heap.size 5 1 v (linkText l n root ahead).length (bys (linkText l n root ahead)) ∧ Below w.heap.size w w' := by
  have HL := Lib.hid hl; clear hl
  have HRL := Lib.hid hr
  have HAL := Lib.hid ha
  clear hr ha
  have hwu := u64_wrap n
  obtain ⟨u, hu⟩ : ∃ u, u = u64 n := ⟨_, rfl⟩
  rw [← hu] at hwu
  have HU := Lib.hid hu
  obtain ⟨i0, hi, hz0, hz1, hz2⟩ := parts3 info1
  obtain ⟨x1, hx1⟩ : ∃ x1, x1 = UInt8.ofNat (l.length / 256) := ⟨_, rfl⟩
  obtain ⟨x2, hx2⟩ : ∃ x2, x2 = UInt8.ofNat l.length := ⟨_, rfl⟩
  have hb1 : (l.length : Int) / 256 % 256 = (x1.toNat : Int) := by rw [hx1, UInt8.toNat_ofNat']; omega
  have hb2 : (l.length : Int) % 256 = (x2.toNat : Int) := by rw [hx2, UInt8.toNat_ofNat']; omega
  have HX : Hid ([3, x1, x2] = 3 :: two l.length) := Lib.hid (by rw [hx1, hx2]; rfl)
  clear hx1 hx2 hu
  have hown0 : ∀ w0 : World, Ow (w0.alloc (.cells #[.int .u8 3, .int .u8 (x1.toNat : Int), .int .u8 (x2.toNat : Int)] 5)) w0.heap.size 5 1 (.slice (some ⟨w0.heap.size, 0, none⟩) 3 3) 3 (bys [3, x1, x2]) := fun w0 => Ow.lit w0 #[.int .u8 3, .int .u8 (x1.toNat : Int), .int .u8 (x2.toNat : Int)] 5 1 3 w0.heap.size (Nat.le_refl _) (by decide) rfl
  have HOWN0 := Lib.hid hown0
  clear hown0
  go_enter Tryd.func26, Tryd.ntmps26
  obtain ⟨wz, hwz⟩ : ∃ wz, wz = (w.alloc (.cells (bysA root) 25)).alloc (.cells (bysA ahead) 25) := ⟨_, rfl⟩
  have hws : wz.heap.size = w.heap.size + 1 + 1 := by rw [hwz]; simp
  have hbz : Below w.heap.size w wz := by rw [hwz]; exact ((Below.refl _ _).alloc (Nat.le_refl _) _).alloc (by simp) _
  have hrr : wz.heap[w.heap.size]? = some (.cells (bysA root) 25 (0, 0)) := by rw [hwz]; exact (Rg.heap_alloc_past _ _ _ (by simp)).trans (Rg.heap_alloc_at w _ _ rfl)
  have hra : wz.heap[w.heap.size + 1]? = some (.cells (bysA ahead) 25 (0, 0)) := by rw [hwz]; exact Rg.heap_alloc_at _ _ _ (by simp)
  have HWZ := Lib.hid hwz
  have HWS := Lib.hid hws
  have HBZ := Lib.hid hbz
  have HRR := Lib.hid hrr
  have HRA := Lib.hid hra
  clear hwz hws hbz hrr hra
  go_wp2_with (at_builtin; rw [← HWZ.out, ← HWS.out]; go_must (refine app_ow rfl _ _ 28 28 rfl wz.heap.size 5 i0 (.int .u8 0) 1 1 Tryd.underlying28 hi hz0 hz1 hz2 rfl _ _ _ rfl (HOWN0.out wz) _ _ _ rfl (Rd.src Tryd.underlying28 (HL.out.below (HBZ.out.trans (((Below.refl _ _).alloc (Nat.le_refl _) _).mono HBZ.out.size))) (bys_one _)) (by unfold maxLen; omega) (by omega) (by simp) ?_); go_must (intro v1 w1 how1 hg1); go_must (obtain ⟨q1, c1, rfl⟩ := Ow_form how1))
  have hg1' : (wz.alloc (.cells #[.int .u8 3, .int .u8 (x1.toNat : Int), .int .u8 (x2.toNat : Int)] 5)).grownBy w1 (some wz.heap.size) := hg1
  have hbw1 : Below wz.heap.size wz w1 := ((Below.refl _ _).alloc (Nat.le_refl _) _).grown hg1' (by simp) (fun j hj => by cases hj; exact Nat.le_refl _)
  rw [← bys_append] at how1
  obtain ⟨P0, hP0⟩ : ∃ P0, P0 = [3, x1, x2] ++ l := ⟨_, rfl⟩
  obtain ⟨N, hN⟩ : ∃ N, N = 3 + l.length := ⟨_, rfl⟩
  rw [← hP0, ← hN] at how1
  rw [← hN]
  have hNl : N ≤ 1000003 := by omega
  have HP0 := Lib.hid hP0
  have HN := Lib.hid hN
  have HO1 := Lib.hid how1
  have HBW1 := Lib.hid hbw1
  clear hg1 hg1' hbw1 how1 hP0 hN hb1 hb2
  go_loopw [9, 10] (fun v i wr => ∃ (j : Nat) (q : Option Addr) (c : Nat), j ≤ 8 ∧ i = .int .i64 (7 - (j : Int)) ∧ v = .slice q (N + j) c ∧ Ow wr wz.heap.size 5 1 (.slice q (N + j) c) (N + j) (bys (P0 ++ be u j)) ∧ Below wz.heap.size wz wr) (fun _ i _ => (intOf i + 1).toNat)
  case atStart => exact ⟨0, q1, c1, by omega, rfl, rfl, by simpa [be] using HO1.out, HBW1.out⟩
  case round =>
    obtain ⟨j, qj, cj, hj, rfl, rfl, hown, hb⟩ := hrel
    have hszw := hb.size
    by_cases hlt : j < 8
    · have hge : (0 : Int) ≤ 7 - (j : Int) := by omega
      have hx := byte_at u j hlt
      have HSUC := Lib.hid (be_succ u j)
      obtain ⟨x, hxe⟩ : ∃ x, x = UInt8.ofNat (u / 2 ^ (8 * (7 - j))) := ⟨_, rfl⟩
      rw [← hxe] at hx HSUC
      rw [show 56 - 8 * j = 8 * (7 - j) by omega] at hx
      have h7 : (0 : Int) ≤ 8 * (7 - (j : Int)) := by omega
      have ht : (8 * (7 - (j : Int))).toNat = 8 * (7 - j) := by omega
      have HR1 : Hid (∀ w1 : World, Rd (w1.alloc (.cells #[.int .u8 (x.toNat : Int)] 5)) 1 (.slice (some ⟨w1.heap.size, 0, none⟩) 1 1) 1 (bys [x])) := Lib.hid (fun w1 => Rd_lit w1 #[.int .u8 (x.toNat : Int)] 5 1 1 rfl (by decide))
      clear hxe
      go_wp2_with (at_builtin; have ho := hown.alloc (.cells #[.int .u8 (x.toNat : Int)] 5); go_must (refine app_ow rfl _ _ 28 28 rfl wz.heap.size 5 i0 (.int .u8 0) 1 1 Tryd.underlying28 hi hz0 hz1 hz2 rfl _ _ _ rfl ho _ _ _ rfl (Rd.src Tryd.underlying28 (HR1.out _) (bys_one [x])) (by unfold maxLen; omega) (by omega) (by rw [World.size_alloc]; omega) ?_); go_must (intro v3 w3 how3 hg3); go_must (obtain ⟨q3, c3, rfl⟩ := Ow_form how3); go_must (have hb3 : Below wz.heap.size wz w3 := (hb.alloc hszw _).grown hg3 (by rw [World.size_alloc]; omega) (fun k hk => (ho.lt k hk).1)); clear hown ho hg3)
      have HO3 := Lib.hid how3; clear how3
      refine ⟨⟨j + 1, q3, c3, by omega, by congr 1; omega, by rw [Nat.add_assoc], ?_, hb3⟩, ?_⟩
      · rw [HSUC.out, ← List.append_assoc, bys_append, ← Nat.add_assoc]; exact HO3.out
      · simp [intOf]; omega
    · obtain rfl : j = 8 := by omega
      rw [show (7 - ((8 : Nat) : Int)) = -1 from rfl]
      have HRROW := Lib.hid (Rp.row_le hb HRR.out)
      have HAROW := Lib.hid (Rp.row_le hb HRA.out)
      go_wp2_with fail
      refine Rp.pure [0, 1, 3] [2, 4, 5] (by kernel_rfl) (by kernel_rfl) ?_; simp only [Rp.pickN, Rp.nth]
      repeat (refine Rp.uK rfl ?_; intro K hK; apply Exists.intro; refine ⟨?_, ?_⟩; (focus (intro x; go_simp; (first | (fail) | ((try go_bits); (try go_simp); (try rfl))))); go_simp; refine hK _ ?_; clear hK K)
      refine Rp.uDone ?_
      have hk0 := Rd_of_row HRROW.out HRL.out (by decide)
      have ho0 : Ow wr.drew wz.heap.size 5 1 (.slice qj (N + 8) cj) (N + 8) (bys (P0 ++ be u 8)) := hown
      have hbd : Below wz.heap.size wz wr.drew := hb.drew
      refine app_ow rfl _ _ 28 28 rfl wz.heap.size 5 i0 (.int .u8 0) 1 1 Tryd.underlying28 hi hz0 hz1 hz2 rfl _ _ _ rfl ho0 _ _ _ rfl (Rd.src Tryd.underlying28 (hk0.drewN 1) (bys_one _)) (by unfold maxLen; omega) (by omega) hbd.size ?_
      intro v3 w3 how3 hg3
      obtain ⟨q3, c3, rfl⟩ := Ow_form how3
      have hb3 : Below wz.heap.size wz w3 := hbd.grown hg3 hbd.size (fun k hk => (ho0.lt k hk).1)
      have hk1 := Rd_of_row (Rp.row_le hb3 HRA.out) HAL.out (by decide)
      rw [← bys_append] at how3
      refine app_ow rfl _ _ 28 28 rfl wz.heap.size 5 i0 (.int .u8 0) 1 1 Tryd.underlying28 hi hz0 hz1 hz2 rfl _ _ _ rfl how3 _ _ _ rfl (Rd.src Tryd.underlying28 hk1 (bys_one _)) (by unfold maxLen; omega) (by omega) hb3.size ?_
      intro v4 w4 how4 hg4
      obtain ⟨q4, c4, rfl⟩ := Ow_form how4
      have hb4 : Below wz.heap.size wz w4 := hb3.grown hg4 hb3.size (fun k hk => (how3.lt k hk).1)
      rw [← bys_append] at how4
      have htx : P0 ++ be u 8 ++ root ++ ahead = linkText l n root ahead := by
        rw [HP0.out, HX.out, HU.out]
        unfold linkText eight
        simp
      have hln : N + 8 + 32 + 32 = (linkText l n root ahead).length := by
        rw [linkText_length l n root ahead HRL.out HAL.out, HN.out]; omega
      rw [htx] at how4
      have HO4 : Hid (Ow w4 w.heap.size 5 1 (.slice q4 (N + 8 + 32 + 32) c4) (linkText l n root ahead).length (bys (linkText l n root ahead))) := Lib.hid (by
        rw [← hln]; exact how4.base_le HBZ.out.size)
      have HB4 := Lib.hid (HBZ.out.trans (hb4.mono HBZ.out.size))
      clear how4 hg4 how3 hg3 ho0 hbd hb3 hb4 hk0 hk1 htx hln hown
      go_simp
      go_wp2_with fail
      refine NoPanic.normal ?_
      go_wp2_with fail
      go_ret
      exact ⟨_, rfl, HO4.out, HB4.out⟩
end Ref
end Go.Proofs.YtmcjjionfmdioaaDoor

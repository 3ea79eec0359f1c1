/- Eight bytes of a number; lists of few parts; the chain's links. Conditions: none beyond the bounds of bytes. -/
import Derived.Test.YtmonkggoilhngaaGreatDoorGEqR
import Derived.Test.YtmonkggoilhngaaGreatDoorGMac
import Derived.Test.YtmonkggoilhngaaGreatDoorGFew
import Derived.Test.YtmonkggoilhngaaGreatDoorGL32P
namespace Go.Proofs.YtmonkggoilhngaaGreatDoor
open Go.RowKit Bits Mem Sha
attribute [go_sem] sha_length hmac_length
namespace Ref
def u64 (n : Int) : Nat := (n % 18446744073709551616).toNat
def eight (n : Int) : List UInt8 := be (u64 n) 8
theorem u64_wrap (n : Int) : IntKind.u64.wrap n = (u64 n : Int) := by rw [IntKind.wrap_u64]; unfold u64; omega
theorem eight_length (n : Int) : (eight n).length = 8 := be_length _ _
theorem byte_at (u j : Nat) (hj : j < 8) : (u : Int) / 2 ^ (56 - 8 * j) % 256 = ((UInt8.ofNat (u / 2 ^ (8 * (7 - j)))).toNat : Int) := by
  rw [UInt8.toNat_ofNat', show 8 * (7 - j) = 56 - 8 * j from by omega]; simp
def e8 (u j : Nat) : List UInt8 := be u j ++ List.replicate (8 - j) 0
theorem e8_length (u j : Nat) (h : j ≤ 8) : (e8 u j).length = 8 := by unfold e8; rw [List.length_append, be_length, List.length_replicate]; omega
theorem e8_zero (u : Nat) : e8 u 0 = List.replicate 8 0 := rfl
theorem e8_full (u : Nat) : e8 u 8 = be u 8 := by simp [e8]
theorem e8_set (u j : Nat) (h : j < 8) : (e8 u j).set j (UInt8.ofNat (u / 2 ^ (8 * (7 - j)))) = e8 u (j + 1) := by
  unfold e8
  rw [List.set_append_right _ _ (by rw [be_length]; exact Nat.le_refl _), be_length, Nat.sub_self, be_succ, List.append_assoc, show 8 - j = (8 - (j + 1)) + 1 by omega, List.replicate_succ, List.set_cons_zero]
  rfl
def two (n : Nat) : List UInt8 := [UInt8.ofNat (n / 256), UInt8.ofNat n]
def linkText (id : List UInt8) (n : Int) (root ahead : List UInt8) : List UInt8 := 3 :: (two id.length ++ id ++ eight n ++ root ++ ahead)
def firstLink (id : List UInt8) : List UInt8 := sha (4 :: id)
theorem linkText_length (id : List UInt8) (n : Int) (root ahead : List UInt8) (hr : root.length = 32) (ha : ahead.length = 32) : (linkText id n root ahead).length = id.length + 75 := by
  simp [linkText, two, eight_length, hr, ha]
set_option maxRecDepth 100000 in
set_option maxHeartbeats 1000000 in
theorem first_any (q : Option Addr) (c : Nat) (l : List UInt8) (w : World) (hS : Sha.Tabs w) (hl : Rd w 1 (.slice q l.length c) l.length (bys l)) (h : l.length ≤ 1000000) :
    Calls Tryz.prog 52 #[.slice q l.length c] w fun e w' => e = .returned (.agg (bysA (firstLink l))) ∧ Below w.heap.size w w' := by
  have HS := Lib.hid hS
  have HL := Lib.hid hl
  clear hS hl
  go_enter Tryz.func52, Tryz.ntmps52
  go_wp2_with fail
  rw [z32]
  have hrz : (w.alloc (.cells (bysA zeros32) 22)).heap[w.heap.size]? = some (.cells (bysA zeros32) 22 (0, 0)) := Rg.heap_alloc_at w _ _ rfl
  have hw1 : Below w.heap.size w (w.alloc (.cells (bysA zeros32) 22)) := (Below.refl _ _).alloc (Nat.le_refl _) _
  obtain ⟨w1, hw1e⟩ : ∃ w1, w1 = w.alloc (.cells (bysA zeros32) 22) := ⟨_, rfl⟩
  have hs1 : w1.heap.size = w.heap.size + 1 := by rw [hw1e]; simp
  rw [← hw1e] at hrz hw1
  rw [← hw1e]
  have hx2 : Below w1.heap.size w1 (w1.alloc (.cells #[.int .u8 4] 5)) := (Below.refl _ _).alloc (Nat.le_refl _) _
  have hr4 : Rd (w1.alloc (.cells #[.int .u8 4] 5)) 1 (.slice (some ⟨w1.heap.size, 0, none⟩) 1 1) 1 (bys [4]) := Rd_lit w1 #[.int .u8 4] 5 1 1 rfl (by decide)
  obtain ⟨w2, hw2e⟩ : ∃ w2, w2 = w1.alloc (.cells #[.int .u8 4] 5) := ⟨_, rfl⟩
  have hs2 : w2.heap.size = w.heap.size + 1 + 1 := by rw [hw2e, World.size_alloc, hs1]
  rw [← hw2e] at hx2 hr4
  rw [← hw2e, ← hs2, ← hs1]
  have h2 : Below w.heap.size w w2 := hw1.trans (hx2.mono hw1.size)
  have hp := Parts.lit2 w2 [4] l _ _ ⟨_, _, rfl, hr4⟩ ⟨_, _, rfl, HL.out.below h2⟩
  have hx3 : Below w2.heap.size w2 (w2.alloc (.cells #[.slice (some ⟨w1.heap.size, 0, none⟩) 1 1, .slice q l.length c] 23)) := (Below.refl _ _).alloc (Nat.le_refl _) _
  have hs := parts_any _ _ [[4], l] _ (HS.out.below (h2.trans (hx3.mono h2.size))) hp (by simp; omega)
  rw [show [[4], l].flatten = 4 :: l from by simp] at hs
  have HB2 := Lib.hid h2
  have HX3 := Lib.hid hx3
  have HRZ := Lib.hid (Rp.row_le hx2 hrz)
  clear hw1e hw2e hs1 hs2 hp hrz hw1 hx2 hr4 h2 hx3
  refine hs.mono ?_
  clear hs
  rintro e w3 ⟨rfl, hb3⟩
  have h23 : Below w2.heap.size w2 w3 := HX3.out.trans (hb3.mono HX3.out.size)
  have HB3 := Lib.hid (HB2.out.trans (h23.mono HB2.out.size))
  have HRZ3 := Lib.hid (Rp.row_le h23 HRZ.out)
  have HM := Lib.hid (sha_length (4 :: l))
  obtain ⟨R, hR⟩ : ∃ R, R = sha (4 :: l) := ⟨_, rfl⟩
  rw [← hR] at HM ⊢
  have HRR : Hid (R = firstLink l) := Lib.hid hR
  have HIM : Hid ((Tryz.prog.info? 22).map (·.size) = some (bysA R).size) := Lib.hid (by rw [bysA_size, HM.out]; exact info32)
  clear hR hb3 h23 HX3 HRZ
  go_wp2_with (refine Rg.store_row rfl 22 _ _ rfl w.heap.size rfl 22 (bysA zeros32) (bysA R) rfl HRZ3.out HIM.out (by rw [bysA_size, bysA_size, HM.out]; rfl) (bysA_one _) ?_)
  refine bodyPost_ret (v := .agg (bysA R)) (results_cell_row (P := Tryz.prog) rfl _ _ w.heap.size 22 (bysA R) (0, 0) _ rfl (setRow_heap _ _ _ _ 22 _ HRZ3.out) Tryz.underlying22 rfl HIM.out) rfl ⟨by rw [HRR.out], ?_⟩
  exact Rg.below_setRow HB3.out (Nat.le_refl _) _
set_option maxRecDepth 100000 in
set_option maxHeartbeats 4000000 in
theorem ctext_any (q : Option Addr) (c : Nat) (l : List UInt8) (n : Int) (root ahead : List UInt8) (w : World) (hl : Rd w 1 (.slice q l.length c) l.length (bys l)) (h : l.length ≤ 1000000) (hr : root.length = 32) (ha : ahead.length = 32) :
    Calls Tryz.prog 28 #[.slice q l.length c, .int .i64 n, .agg (bysA root), .agg (bysA ahead)] w fun e w' => ∃ v, e = .returned v ∧ Ow w' w.heap.size 5 1 v (linkText l n root ahead).length (bys (linkText l n root ahead)) ∧ Below w.heap.size w w' := by
  have HL := Lib.hid hl; clear hl
  have HRL := Lib.hid hr
  have HAL := Lib.hid ha
  clear hr ha
  have hwu := u64_wrap n
  obtain ⟨u, hu⟩ : ∃ u, u = u64 n := ⟨_, rfl⟩
  rw [← hu] at hwu
  have HU := Lib.hid hu
  obtain ⟨i0, hi, hz0, hz1, hz2⟩ := parts3 info1
  obtain ⟨x1, hx1⟩ : ∃ x1, x1 = UInt8.ofNat (l.length / 256) := ⟨_, rfl⟩
  obtain ⟨x2, hx2⟩ : ∃ x2, x2 = UInt8.ofNat l.length := ⟨_, rfl⟩
  have hb1 : (l.length : Int) / 256 % 256 = (x1.toNat : Int) := by rw [hx1, UInt8.toNat_ofNat']; omega
  have hb2 : (l.length : Int) % 256 = (x2.toNat : Int) := by rw [hx2, UInt8.toNat_ofNat']; omega
  have HX : Hid ([3, x1, x2] = 3 :: two l.length) := Lib.hid (by rw [hx1, hx2]; rfl)
  clear hx1 hx2 hu
  have hown0 : ∀ w0 : World, Ow (w0.alloc (.cells #[.int .u8 3, .int .u8 (x1.toNat : Int), .int .u8 (x2.toNat : Int)] 5)) w0.heap.size 5 1 (.slice (some ⟨w0.heap.size, 0, none⟩) 3 3) 3 (bys [3, x1, x2]) := fun w0 => Ow.lit w0 #[.int .u8 3, .int .u8 (x1.toNat : Int), .int .u8 (x2.toNat : Int)] 5 1 3 w0.heap.size (Nat.le_refl _) (by decide) rfl
  have HOWN0 := Lib.hid hown0
  clear hown0
  go_enter Tryz.func28, Tryz.ntmps28
  obtain ⟨wz, hwz⟩ : ∃ wz, wz = (w.alloc (.cells (bysA root) 22)).alloc (.cells (bysA ahead) 22) := ⟨_, rfl⟩
  have hws : wz.heap.size = w.heap.size + 1 + 1 := by rw [hwz]; simp
  have hbz : Below w.heap.size w wz := by rw [hwz]; exact ((Below.refl _ _).alloc (Nat.le_refl _) _).alloc (by simp) _
  have hrr : wz.heap[w.heap.size]? = some (.cells (bysA root) 22 (0, 0)) := by rw [hwz]; exact (Rg.heap_alloc_past _ _ _ (by simp)).trans (Rg.heap_alloc_at w _ _ rfl)
  have hra : wz.heap[w.heap.size + 1]? = some (.cells (bysA ahead) 22 (0, 0)) := by rw [hwz]; exact Rg.heap_alloc_at _ _ _ (by simp)
  have HWZ := Lib.hid hwz
  have HWS := Lib.hid hws
  have HBZ := Lib.hid hbz
  have HRR := Lib.hid hrr
  have HRA := Lib.hid hra
  clear hwz hws hbz hrr hra
  go_wp2_with (at_builtin; rw [← HWZ.out, ← HWS.out]; go_must (refine app_ow rfl _ _ 23 23 rfl wz.heap.size 5 i0 (.int .u8 0) 1 1 Tryz.underlying23 hi hz0 hz1 hz2 rfl _ _ _ rfl (HOWN0.out wz) _ _ _ rfl (Rd.src Tryz.underlying23 (HL.out.below (HBZ.out.trans (((Below.refl _ _).alloc (Nat.le_refl _) _).mono HBZ.out.size))) (bys_one _)) (by unfold maxLen; omega) (by omega) (by simp) ?_); go_must (intro v1 w1 how1 hg1); go_must (obtain ⟨q1, c1, rfl⟩ := Ow_form how1))
  have hg1' : (wz.alloc (.cells #[.int .u8 3, .int .u8 (x1.toNat : Int), .int .u8 (x2.toNat : Int)] 5)).grownBy w1 (some wz.heap.size) := hg1
  have hbw1 : Below wz.heap.size wz w1 := ((Below.refl _ _).alloc (Nat.le_refl _) _).grown hg1' (by simp) (fun j hj => by cases hj; exact Nat.le_refl _)
  rw [← bys_append] at how1
  obtain ⟨P0, hP0⟩ : ∃ P0, P0 = [3, x1, x2] ++ l := ⟨_, rfl⟩
  obtain ⟨N, hN⟩ : ∃ N, N = 3 + l.length := ⟨_, rfl⟩
  rw [← hP0, ← hN] at how1
  rw [← hN]
  have hNl : N ≤ 1000003 := by omega
  have HP0 := Lib.hid hP0
  have HN := Lib.hid hN
  have HO1 := Lib.hid how1
  have HBW1 := Lib.hid hbw1
  clear hg1 hg1' hbw1 how1 hP0 hN hb1 hb2
  go_loopw [9, 10] (fun v i wr => ∃ (j : Nat) (q : Option Addr) (c : Nat), j ≤ 8 ∧ i = .int .i64 (7 - (j : Int)) ∧ v = .slice q (N + j) c ∧ Ow wr wz.heap.size 5 1 (.slice q (N + j) c) (N + j) (bys (P0 ++ be u j)) ∧ Below wz.heap.size wz wr) (fun _ i _ => (intOf i + 1).toNat)
  case atStart => exact ⟨0, q1, c1, by omega, rfl, rfl, by simpa [be] using HO1.out, HBW1.out⟩
  case round =>
    obtain ⟨j, qj, cj, hj, rfl, rfl, hown, hb⟩ := hrel
    have hszw := hb.size
    by_cases hlt : j < 8
    · have hge : (0 : Int) ≤ 7 - (j : Int) := by omega
      have hx := byte_at u j hlt
      have HSUC := Lib.hid (be_succ u j)
      obtain ⟨x, hxe⟩ : ∃ x, x = UInt8.ofNat (u / 2 ^ (8 * (7 - j))) := ⟨_, rfl⟩
      rw [← hxe] at hx HSUC
      rw [show 56 - 8 * j = 8 * (7 - j) by omega] at hx
      have h7 : (0 : Int) ≤ 8 * (7 - (j : Int)) := by omega
      have ht : (8 * (7 - (j : Int))).toNat = 8 * (7 - j) := by omega
      have HR1 : Hid (∀ w1 : World, Rd (w1.alloc (.cells #[.int .u8 (x.toNat : Int)] 5)) 1 (.slice (some ⟨w1.heap.size, 0, none⟩) 1 1) 1 (bys [x])) := Lib.hid (fun w1 => Rd_lit w1 #[.int .u8 (x.toNat : Int)] 5 1 1 rfl (by decide))
      clear hxe
      go_wp2_with (at_builtin; have ho := hown.alloc (.cells #[.int .u8 (x.toNat : Int)] 5); go_must (refine app_ow rfl _ _ 23 23 rfl wz.heap.size 5 i0 (.int .u8 0) 1 1 Tryz.underlying23 hi hz0 hz1 hz2 rfl _ _ _ rfl ho _ _ _ rfl (Rd.src Tryz.underlying23 (HR1.out _) (bys_one [x])) (by unfold maxLen; omega) (by omega) (by rw [World.size_alloc]; omega) ?_); go_must (intro v3 w3 how3 hg3); go_must (obtain ⟨q3, c3, rfl⟩ := Ow_form how3); go_must (have hb3 : Below wz.heap.size wz w3 := (hb.alloc hszw _).grown hg3 (by rw [World.size_alloc]; omega) (fun k hk => (ho.lt k hk).1)); clear hown ho hg3)
      have HO3 := Lib.hid how3; clear how3
      refine ⟨⟨j + 1, q3, c3, by omega, by congr 1; omega, by rw [Nat.add_assoc], ?_, hb3⟩, ?_⟩
      · rw [HSUC.out, ← List.append_assoc, bys_append, ← Nat.add_assoc]; exact HO3.out
      · simp [intOf]; omega
    · obtain rfl : j = 8 := by omega
      rw [show (7 - ((8 : Nat) : Int)) = -1 from rfl]
      have HRROW := Lib.hid (Rp.row_le hb HRR.out)
      have HAROW := Lib.hid (Rp.row_le hb HRA.out)
      go_wp2_with fail
      refine Rp.pure [0, 1, 3] [2, 4, 5] (by kernel_rfl) (by kernel_rfl) ?_; simp only [Rp.pickN, Rp.nth]
      repeat (refine Rp.uK rfl ?_; intro K hK; apply Exists.intro; refine ⟨?_, ?_⟩; (focus (intro x; go_simp; (first | (fail) | ((try go_bits); (try go_simp); (try rfl))))); go_simp; refine hK _ ?_; clear hK K)
      refine Rp.uDone ?_
      have hk0 := Rd_of_row HRROW.out HRL.out (by decide)
      have ho0 : Ow wr.drew wz.heap.size 5 1 (.slice qj (N + 8) cj) (N + 8) (bys (P0 ++ be u 8)) := hown
      have hbd : Below wz.heap.size wz wr.drew := hb.drew
      refine app_ow rfl _ _ 23 23 rfl wz.heap.size 5 i0 (.int .u8 0) 1 1 Tryz.underlying23 hi hz0 hz1 hz2 rfl _ _ _ rfl ho0 _ _ _ rfl (Rd.src Tryz.underlying23 (hk0.drewN 1) (bys_one _)) (by unfold maxLen; omega) (by omega) hbd.size ?_
      intro v3 w3 how3 hg3
      obtain ⟨q3, c3, rfl⟩ := Ow_form how3
      have hb3 : Below wz.heap.size wz w3 := hbd.grown hg3 hbd.size (fun k hk => (ho0.lt k hk).1)
      have hk1 := Rd_of_row (Rp.row_le hb3 HRA.out) HAL.out (by decide)
      rw [← bys_append] at how3
      refine app_ow rfl _ _ 23 23 rfl wz.heap.size 5 i0 (.int .u8 0) 1 1 Tryz.underlying23 hi hz0 hz1 hz2 rfl _ _ _ rfl how3 _ _ _ rfl (Rd.src Tryz.underlying23 hk1 (bys_one _)) (by unfold maxLen; omega) (by omega) hb3.size ?_
      intro v4 w4 how4 hg4
      obtain ⟨q4, c4, rfl⟩ := Ow_form how4
      have hb4 : Below wz.heap.size wz w4 := hb3.grown hg4 hb3.size (fun k hk => (how3.lt k hk).1)
      rw [← bys_append] at how4
      have htx : P0 ++ be u 8 ++ root ++ ahead = linkText l n root ahead := by
        rw [HP0.out, HX.out, HU.out]
        unfold linkText eight
        simp
      have hln : N + 8 + 32 + 32 = (linkText l n root ahead).length := by
        rw [linkText_length l n root ahead HRL.out HAL.out, HN.out]; omega
      rw [htx] at how4
      have HO4 : Hid (Ow w4 w.heap.size 5 1 (.slice q4 (N + 8 + 32 + 32) c4) (linkText l n root ahead).length (bys (linkText l n root ahead))) := Lib.hid (by
        rw [← hln]; exact how4.base_le HBZ.out.size)
      have HB4 := Lib.hid (HBZ.out.trans (hb4.mono HBZ.out.size))
      clear how4 hg4 how3 hg3 ho0 hbd hb3 hb4 hk0 hk1 htx hln hown
      go_simp
      go_wp2_with fail
      refine NoPanic.normal ?_
      go_wp2_with fail
      go_ret
      exact ⟨_, rfl, HO4.out, HB4.out⟩
def nextLink (id : List UInt8) (n : Int) (root ahead : List UInt8) : List UInt8 := sha (linkText id n root ahead)
set_option maxRecDepth 100000 in
set_option maxHeartbeats 4000000 in
theorem next_any (q : Option Addr) (c : Nat) (l : List UInt8) (n : Int) (root ahead : List UInt8) (w : World) (hS : Sha.Tabs w) (hl : Rd w 1 (.slice q l.length c) l.length (bys l)) (h : l.length ≤ 1000000) (hr : root.length = 32) (ha : ahead.length = 32) :
    Calls Tryz.prog 54 #[.slice q l.length c, .int .i64 n, .agg (bysA root), .agg (bysA ahead)] w fun e w' => e = .returned (.agg (bysA (nextLink l n root ahead))) ∧ Below w.heap.size w w' := by
  have HS := Lib.hid hS
  have HL := Lib.hid hl
  have HRL := Lib.hid hr
  have HAL := Lib.hid ha
  clear hS hl hr ha
  obtain ⟨wz, hwz⟩ : ∃ wz, wz = ((w.alloc (.cells (bysA root) 22)).alloc (.cells (bysA ahead) 22)).alloc (.cells (bysA zeros32) 22) := ⟨_, rfl⟩
  have hbz : Below w.heap.size w wz := by rw [hwz]; exact (((Below.refl _ _).alloc (Nat.le_refl _) _).alloc (by simp) _).alloc (by simp; omega) _
  have hrr : wz.heap[w.heap.size]? = some (.cells (bysA root) 22 (0, 0)) := by rw [hwz]; exact (Rg.heap_alloc_past _ _ _ (by simp; omega)).trans ((Rg.heap_alloc_past _ _ _ (by simp)).trans (Rg.heap_alloc_at w _ _ rfl))
  have hra : wz.heap[w.heap.size + 1]? = some (.cells (bysA ahead) 22 (0, 0)) := by rw [hwz]; exact (Rg.heap_alloc_past _ _ _ (by simp)).trans (Rg.heap_alloc_at _ _ _ (by simp))
  have hrz : wz.heap[w.heap.size + 1 + 1]? = some (.cells (bysA zeros32) 22 (0, 0)) := by rw [hwz]; exact Rg.heap_alloc_at _ _ _ (by simp)
  have HWZ := Lib.hid hwz
  have HBZ := Lib.hid hbz
  have HRR := Lib.hid hrr
  have HRA := Lib.hid hra
  have HRZ := Lib.hid hrz
  have HIR : Hid ((Tryz.prog.info? 22).map (·.size) = some (bysA root).size) := Lib.hid (by rw [bysA_size, HRL.out]; exact info32)
  have HIA : Hid ((Tryz.prog.info? 22).map (·.size) = some (bysA ahead).size) := Lib.hid (by rw [bysA_size, HAL.out]; exact info32)
  clear hwz hbz hrr hra hrz
  go_enter Tryz.func54, Tryz.ntmps54
  go_wp2_with (first | (rw [z32, ← HWZ.out]; refine wpList_load_row rfl 22 _ rfl w.heap.size rfl 22 (bysA root) (0, 0) _ HRR.out Tryz.underlying22 rfl HIR.out ?_) | (refine wpList_load_row rfl 22 _ rfl (w.heap.size + 1) rfl 22 (bysA ahead) (0, 0) _ HRA.out Tryz.underlying22 rfl HIA.out ?_))
  refine (ctext_any q c l n root ahead _ (HL.out.below HBZ.out) h HRL.out HAL.out).mono ?_
  rintro e w1 ⟨v, rfl, hown, hb1⟩
  obtain ⟨qt, ct, rfl⟩ := Ow_form hown
  have HB1 := Lib.hid (HBZ.out.trans (hb1.mono HBZ.out.size))
  have HRZ1 := Lib.hid (Rp.row_le hb1 HRZ.out)
  have HT1 := Lib.hid (Rd.of_ow hown)
  have htl := linkText_length l n root ahead HRL.out HAL.out
  have HNX : Hid (sha (linkText l n root ahead) = nextLink l n root ahead) := Lib.hid rfl
  obtain ⟨T, hT⟩ : ∃ T, T = linkText l n root ahead := ⟨_, rfl⟩
  rw [← hT] at HT1 htl HNX ⊢
  have hTl : T.length ≤ 1000075 := by omega
  clear htl hT hown hb1 HRR HRA HRZ HBZ HWZ
  go_wp2_with fail
  have hx2 : Below w1.heap.size w1 (w1.alloc (.cells #[.slice qt T.length ct] 23)) := (Below.refl _ _).alloc (Nat.le_refl _) _
  have hs := parts_any _ _ [T] _ (HS.out.below (HB1.out.trans (hx2.mono HB1.out.size))) (Parts.lit1 w1 T _ ⟨_, _, rfl, HT1.out⟩) (by simp; omega)
  rw [show [T].flatten = T from by simp] at hs
  refine hs.mono ?_
  clear hs
  rintro e w2 ⟨rfl, hb2⟩
  have h12 : Below w1.heap.size w1 w2 := hx2.trans (hb2.mono hx2.size)
  have HB2 := Lib.hid (HB1.out.trans (h12.mono HB1.out.size))
  have HRZ2 := Lib.hid (Rp.row_le h12 HRZ1.out)
  have HM := Lib.hid (sha_length T)
  rw [HNX.out] at HM ⊢
  obtain ⟨R, hR⟩ : ∃ R, R = nextLink l n root ahead := ⟨_, rfl⟩
  rw [← hR] at HM ⊢
  have HRR := Lib.hid hR
  have HIM : Hid ((Tryz.prog.info? 22).map (·.size) = some (bysA R).size) := Lib.hid (by rw [bysA_size, HM.out]; exact info32)
  clear hR hb2 h12 hx2
  go_wp2_with (refine Rg.store_row rfl 22 _ _ rfl (w.heap.size + 1 + 1) rfl 22 (bysA zeros32) (bysA R) rfl HRZ2.out HIM.out (by rw [bysA_size, bysA_size, HM.out]; rfl) (bysA_one _) ?_)
  refine bodyPost_ret (v := .agg (bysA R)) (results_cell_row (P := Tryz.prog) rfl _ _ (w.heap.size + 1 + 1) 22 (bysA R) (0, 0) _ rfl (setRow_heap _ _ _ _ 22 _ HRZ2.out) Tryz.underlying22 rfl HIM.out) rfl ⟨by rw [HRR.out], ?_⟩
  exact Rg.below_setRow HB2.out (by omega) _
end Ref
end Go.Proofs.YtmonkggoilhngaaGreatDoor
/- A value bound and opened, and the texts of it. Conditions: none beyond the bounds of bytes. -/
namespace Go.Proofs.YtmonkggoilhngaaGreatDoor
open Go.RowKit Bits Mem Sha
namespace Ref
theorem load_mid {w : World} {g o : Nat} {l r s : List UInt8} {t : TypeId} {f : Nat × Nat} (h : w.heap[g]? = some (.cells (bysA (l ++ (r ++ s))) t f)) (ho : l.length = o) (hn : r.length = 32) : (Instr.loadAt 22 (.pointer (some ⟨g, o, none⟩))).run Tryz.prog w = .ok (.agg (bysA r)) w := by
  subst ho
  refine run_loadAt_mid w g l.length _ (bys r) _ ?_ Tryz.underlying22 rfl ?_
  · intro j v hv
    have hj := (List.getElem?_eq_some_iff.1 hv).1
    rw [bys_length] at hj
    rw [cell_of_row w g _ _ _ _ h]
    simp only [bysA, List.getElem?_toArray, bys_append]
    rw [List.getElem?_append_right (by rw [bys_length]; omega), bys_length, Nat.add_sub_cancel_left, List.getElem?_append_left (by rw [bys_length]; exact hj)]
    exact hv
  · rw [bys_length, hn]; exact info32
theorem Parts.of3 {w : World} {v x y z : Value} {a b c : List UInt8} (h : Rd w 1 v 3 [x, y, z]) (hx : ∃ q c, x = .slice q a.length c ∧ Rd w 1 (.slice q a.length c) a.length (bys a)) (hy : ∃ q c, y = .slice q b.length c ∧ Rd w 1 (.slice q b.length c) b.length (bys b)) (hz : ∃ q k, z = .slice q c.length k ∧ Rd w 1 (.slice q c.length k) c.length (bys c)) : Parts w v [a, b, c] := by
  refine ⟨[x, y, z], h, fun i hi => ?_⟩
  obtain ⟨q, k, rfl, hx⟩ := hx
  obtain ⟨q2, k2, rfl, hy⟩ := hy
  obtain ⟨q3, k3, rfl, hz⟩ := hz
  match i, hi with
  | 0, _ => exact ⟨_, _, rfl, hx⟩
  | 1, _ => exact ⟨_, _, rfl, hy⟩
  | 2, _ => exact ⟨_, _, rfl, hz⟩
set_option maxRecDepth 100000 in
set_option maxHeartbeats 4000000 in
theorem number_any (n : Int) (w : World) :
    Calls Tryz.prog 62 #[.int .i64 n] w fun e w' => ∃ v, e = .returned v ∧ Ow w' w.heap.size 5 1 v 8 (bys (eight n)) ∧ Below w.heap.size w w' := by
  have hwu := u64_wrap n
  obtain ⟨u, hu⟩ : ∃ u, u = u64 n := ⟨_, rfl⟩
  rw [← hu] at hwu
  have HU := Lib.hid hu
  clear hu
  obtain ⟨i0, hi, hz0, hz1, hz2⟩ := parts3 info1
  go_enter Tryz.func62, Tryz.ntmps62
  go_wp2_with (refine wpList_make_full _ rfl _ _ 23 rfl w.heap.size 5 i0 (.int .u8 0) 1 Tryz.underlying23 hi hz0 hz1 .i64 .i64 _ _ 8 rfl rfl rfl rfl (by rw [hz2]; omega) (by unfold maxLen; omega) (Nat.le_refl _) ?_; go_must (intro w1 hown hg1))
  have hrow1 := own_row hown
  rw [made_bys] at hrow1
  have hb1 : Below w.heap.size w w1 := below_of_grown hg1 (Nat.le_refl _) (fun k hk => by cases hk)
  have HB1 := Lib.hid hb1
  obtain ⟨g, hg⟩ : ∃ g, g = w.heap.size := ⟨_, rfl⟩
  rw [← hg] at hrow1
  have HRB1 := Lib.hid hrow1
  have HG := Lib.hid hg
  rw [← hg]
  clear hown hg1 hrow1 hb1 hg
  go_loopw [8] (fun i wr => ∃ j : Nat, j ≤ 8 ∧ i = .int .i64 j ∧ wr.heap[g]? = some (.cells (bysA (e8 u j)) 5 (0, 0)) ∧ Below w.heap.size w wr) (fun i _ => 8 - (intOf i).toNat)
  case atStart => exact ⟨0, by omega, rfl, by rw [e8_zero]; exact HRB1.out, HB1.out⟩
  case round =>
    obtain ⟨j, hj, rfl, hrb, hb⟩ := hrel
    have HRB := Lib.hid hrb
    by_cases hlt : j < 8
    · have hx := byte_at u j hlt
      have HSET := Lib.hid (e8_set u j hlt)
      obtain ⟨x, hxe⟩ : ∃ x, x = UInt8.ofNat (u / 2 ^ (8 * (7 - j))) := ⟨_, rfl⟩
      rw [← hxe] at hx HSET
      rw [show 56 - 8 * j = 8 * (7 - j) by omega] at hx
      have h7 : (0 : Int) ≤ 8 * (7 - (j : Int)) := by omega
      have ht : (8 * (7 - (j : Int))).toNat = 8 * (7 - j) := by omega
      have hel := e8_length u j hj
      have hc := cell_of_bys hrb (k := j) (by omega)
      have hf : wr.frozen? ⟨g, j, none⟩ = false := frozen_of_row _ _ _ _ _ hrb
      have q1 : (j : Int) < 8 := by omega
      clear hxe hrb hel
      go_wp2_with fail
      refine ⟨⟨j + 1, by omega, by go_num, ?_, ?_⟩, by simp [intOf]; omega⟩
      · rw [heap_setCell_same _ _ _ _ _ _ HRB.out, bysA_set, HSET.out]
      · exact hb.setCell (by have := HG.out; simp; omega) _
    · obtain rfl : j = 8 := by omega
      clear hrb
      go_wp2_with fail
      go_ret
      refine ⟨_, rfl, ⟨by rw [bys_length, eight_length], .inr ⟨g, 8, bysA (e8 u 8), (0, 0), rfl, by rw [HG.out]; exact Nat.le_refl _, HRB.out, fun j _ => by simp, Nat.le_refl _, by decide, by rw [bysA_size, e8_length u 8 (Nat.le_refl _)], ?_⟩⟩, hb⟩
      rw [e8_full]
      unfold eight
      rw [← HU.out]
      exact List.take_of_length_le (by simp [bysA, bys_length, be_length])
def bound (o ix : List UInt8) (n : Int) (v : List UInt8) : List UInt8 := hmac o (ix ++ (eight n ++ v))
theorem bound_length (o ix : List UInt8) (n : Int) (v : List UInt8) : (bound o ix n v).length = 32 := hmac_length _ _
set_option maxRecDepth 100000 in
set_option maxHeartbeats 4000000 in
theorem bind_any (o ix : List UInt8) (n : Int) (q : Option Addr) (c : Nat) (l : List UInt8) (w : World) (hS : Sha.Tabs w) (ho : o.length = 32) (hix : ix.length = 32) (hl : Rd w 1 (.slice q l.length c) l.length (bys l)) (h : l.length ≤ 1000000) :
    Calls Tryz.prog 85 #[.agg (bysA o), .agg (bysA ix), .int .i64 n, .slice q l.length c] w fun e w' => e = .returned (.agg (bysA (bound o ix n l))) ∧ Below w.heap.size w w' := by
  have HS := Lib.hid hS
  have HL := Lib.hid hl
  have HO := Lib.hid ho
  have HX := Lib.hid hix
  obtain ⟨wz, hwz⟩ : ∃ wz, wz = ((w.alloc (.cells (bysA o) 22)).alloc (.cells (bysA ix) 22)).alloc (.cells (bysA zeros32) 22) := ⟨_, rfl⟩
  have hbz : Below w.heap.size w wz := by rw [hwz]; exact (((Below.refl _ _).alloc (Nat.le_refl _) _).alloc (by simp) _).alloc (by simp; omega) _
  have hro : wz.heap[w.heap.size]? = some (.cells (bysA o) 22 (0, 0)) := by rw [hwz]; exact (Rg.heap_alloc_past _ _ _ (by simp; omega)).trans ((Rg.heap_alloc_past _ _ _ (by simp)).trans (Rg.heap_alloc_at w _ _ rfl))
  have hrx : wz.heap[w.heap.size + 1]? = some (.cells (bysA ix) 22 (0, 0)) := by rw [hwz]; exact (Rg.heap_alloc_past _ _ _ (by simp)).trans (Rg.heap_alloc_at _ _ _ (by simp))
  have hrz : wz.heap[w.heap.size + 1 + 1]? = some (.cells (bysA zeros32) 22 (0, 0)) := by rw [hwz]; exact Rg.heap_alloc_at _ _ _ (by simp)
  have HWZ := Lib.hid hwz
  have HBZ := Lib.hid hbz
  have HRO := Lib.hid hro
  have HRX := Lib.hid hrx
  have HRZ := Lib.hid hrz
  have HLZ := Lib.hid (hl.below hbz)
  have HNE := Lib.hid (show hmac o (ix ++ (eight n ++ l)) = bound o ix n l from rfl)
  have HBL := Lib.hid (bound_length o ix n l)
  obtain ⟨M, hM⟩ : ∃ M, M = bound o ix n l := ⟨_, rfl⟩
  rw [← hM] at HNE HBL
  have HME := Lib.hid hM
  have HIM : Hid ((Tryz.prog.info? 22).map (·.size) = some (bysA M).size) := Lib.hid (by rw [bysA_size, HBL.out]; exact info32)
  clear hS hl ho hix hwz hbz hro hrx hrz hM
  go_enter Tryz.func85, Tryz.ntmps85
  go_wp2_with fail
  rw [z32, ← HWZ.out]
  refine Rc.region (wz.heap.size) 7 [Rc.F 3 (fun p => .slice p.q 8 p.c) (fun p _ y => Rd y 1 (.slice p.q 8 p.c) 8 (bys (eight n))), ⟨5, [3], [], some (fun _ pj => .slice pj.q 3 3), fun p pj _ y => Rd y 1 (.slice pj.q 3 3) 3 [.slice (some ⟨w.heap.size + 1, 0, none⟩) 32 32, .slice (p 3).q 8 (p 3).c, .slice q l.length c]⟩, Rc.G 6 [3, 5] (fun _ => .agg (bysA M)) (fun _ _ _ => True)] [] (by kernel_rfl) (Nat.le_refl _) (by kernel_rfl) ?_; intro p; simp only [List.take, List.drop]
  iterate 3 (refine Rc.rK rfl rfl ?_; intro K hK; apply Exists.intro; refine ⟨?_, ?_⟩; (focus (intro x hx;  go_simp; (first | (fail) | ((try go_bits); (try go_simp); (try rfl))))); go_simp; refine hK _ ?_; clear hK K)
  refine Rc.fK rfl rfl rfl rfl ?_ ?_
  · intro x Fs hx hle hg K hK
    go_wp2_with fail
    refine (number_any n x).mono ?_
    rintro e x' ⟨v, rfl, hown, hb⟩
    obtain ⟨q', c', rfl⟩ := Ow_form hown
    go_wp2_with fail
    exact hK ⟨q', c', undef⟩ x' hb (fun F y hF hy => Rd.of_ow (OwF.fresh hown hle hF hy).1)
  intro K hK; go_simp; refine hK _ ?_; clear hK K
  iterate 1 (refine Rc.rK rfl rfl ?_; intro K hK; apply Exists.intro; refine ⟨?_, ?_⟩; (focus (intro x hx;  go_simp; (first | (fail) | ((try go_bits); (try go_simp); (try rfl))))); go_simp; refine hK _ ?_; clear hK K)
  refine Rc.fK rfl rfl rfl rfl ?_ ?_
  · intro x Fs hx hle hg K hK
    have hlit := Rd_lit x #[.slice (some ⟨w.heap.size + 1, 0, none⟩) 32 32, .slice (p 3).q 8 (p 3).c, .slice q l.length c] 23 1 3 rfl (by decide)
    go_wp2_with fail
    exact hK ⟨some ⟨x.heap.size, 0, none⟩, 3, undef⟩ _ ((Below.refl _ _).alloc (Nat.le_refl _) _) fun F y hF hy => hlit.keeps hy (fun k hk => .inr (by cases hk; exact hF _ (Nat.le_refl _) (by simp)))
  intro K hK; go_simp; refine hK _ ?_; clear hK K
  refine Rc.fK rfl rfl rfl rfl ?_ ?_
  · intro x Fs hx hle hg K hK
    have hbx := HBZ.out.trans ((Rc.undrew hx).mono HBZ.out.size)
    have h3 : Rd x 1 (.slice (p 3).q 8 (p 3).c) 8 (bys (eight n)) := hg.1
    have h5 : Rd x 1 (.slice (p 5).q 3 3) 3 [.slice (some ⟨w.heap.size + 1, 0, none⟩) 32 32, .slice (p 3).q 8 (p 3).c, .slice q l.length c] := hg.2.1
    have hrow := Rd_of_row (Rp.row_le (Rc.undrew hx) HRX.out) HX.out (by decide)
    have hpt : Parts x (.slice (p 5).q 3 3) [ix, eight n, l] := Parts.of3 h5 ⟨_, _, by rw [HX.out], by rw [HX.out]; exact hrow⟩ ⟨_, _, by rw [eight_length], by rw [eight_length]; exact h3⟩ ⟨_, _, rfl, HLZ.out.below (Rc.undrew hx)⟩
    have hkey := Rd_of_row (Rp.row_le (Rc.undrew hx) HRO.out) HO.out (by decide)
    have hof := of_any (some ⟨w.heap.size, 0, none⟩) 32 o _ _ [ix, eight n, l] x (HS.out.below hbx) (by rw [HO.out]; exact hkey) hpt (by simp [eight_length, HX.out]; omega) (by rw [HO.out]; omega)
    rw [HO.out, show [ix, eight n, l].flatten = ix ++ (eight n ++ l) by simp, HNE.out] at hof
    have HOF := Lib.hid hof
    clear hof hg h3 h5 hrow hpt hkey
    go_wp2_with fail
    refine HOF.out.mono ?_
    rintro e x' ⟨rfl, hb⟩
    go_wp2_with fail
    exact hK Rc.dflt x' hb (fun _ _ _ _ => trivial)
  intro K hK; go_simp; refine hK _ ?_; clear hK K
  refine Rc.done fun x Fs hx hle hg => ?_
  have HRZX := Lib.hid (Rp.row_le (Rc.undrew hx) HRZ.out)
  have HBX := Lib.hid (HBZ.out.trans ((Rc.undrew hx).mono HBZ.out.size))
  clear hx hle hg
  go_wp2_with (refine Rg.store_row rfl 22 _ _ rfl (w.heap.size + 1 + 1) rfl 22 (bysA zeros32) (bysA M) rfl HRZX.out HIM.out (by rw [bysA_size, bysA_size, HBL.out]; rfl) (bysA_one _) ?_)
  refine NoPanic.normal ?_
  go_wp2_with fail
  refine bodyPost_ret (v := .agg (bysA M)) (results_cell_row (P := Tryz.prog) rfl _ _ (w.heap.size + 1 + 1) 22 (bysA M) (0, 0) _ rfl (setRow_heap _ _ _ _ 22 _ HRZX.out) Tryz.underlying22 rfl HIM.out) rfl ⟨by rw [HME.out], ?_⟩
  exact Rg.below_setRow HBX.out (by omega) _
def cchk (b o ix : List UInt8) (n : Int) (l : List UInt8) : Int := if bound o ix n l == b then 0 else 17
set_option maxRecDepth 100000 in
set_option maxHeartbeats 4000000 in
theorem ccheck_any (b o ix : List UInt8) (n : Int) (q : Option Addr) (c : Nat) (l : List UInt8) (w : World) (hS : Sha.Tabs w) (hbl : b.length = 32) (ho : o.length = 32) (hix : ix.length = 32) (hl : Rd w 1 (.slice q l.length c) l.length (bys l)) (h : l.length ≤ 1000000) :
    Calls Tryz.prog 57 #[.agg (bysA b), .agg (bysA o), .agg (bysA ix), .int .i64 n, .slice q l.length c] w fun e w' => e = .returned (.int .i64 (cchk b o ix n l)) ∧ Below w.heap.size w w' := by
  have HS := Lib.hid hS
  have HL := Lib.hid hl
  have HB := Lib.hid hbl
  have HO := Lib.hid ho
  have HX := Lib.hid hix
  obtain ⟨wz, hwz⟩ : ∃ wz, wz = ((w.alloc (.cells (bysA b) 22)).alloc (.cells (bysA o) 22)).alloc (.cells (bysA ix) 22) := ⟨_, rfl⟩
  have hbz : Below w.heap.size w wz := by rw [hwz]; exact (((Below.refl _ _).alloc (Nat.le_refl _) _).alloc (by simp) _).alloc (by simp; omega) _
  have hrb : wz.heap[w.heap.size]? = some (.cells (bysA b) 22 (0, 0)) := by rw [hwz]; exact (Rg.heap_alloc_past _ _ _ (by simp; omega)).trans ((Rg.heap_alloc_past _ _ _ (by simp)).trans (Rg.heap_alloc_at w _ _ rfl))
  have hro : wz.heap[w.heap.size + 1]? = some (.cells (bysA o) 22 (0, 0)) := by rw [hwz]; exact (Rg.heap_alloc_past _ _ _ (by simp)).trans (Rg.heap_alloc_at _ _ _ (by simp))
  have hrx : wz.heap[w.heap.size + 1 + 1]? = some (.cells (bysA ix) 22 (0, 0)) := by rw [hwz]; exact Rg.heap_alloc_at _ _ _ (by simp)
  have HWZ := Lib.hid hwz
  have HBZ := Lib.hid hbz
  have HRB := Lib.hid hrb
  have HRO := Lib.hid hro
  have HRX := Lib.hid hrx
  have HLZ := Lib.hid (hl.below hbz)
  have HBL := Lib.hid (bound_length o ix n l)
  have HCC := Lib.hid (show cchk b o ix n l = if bound o ix n l == b then 0 else 17 from rfl)
  obtain ⟨M, hM⟩ : ∃ M, M = bound o ix n l := ⟨_, rfl⟩
  rw [← hM] at HBL HCC
  have HME := Lib.hid hM
  have hml := HBL.out
  have hbl2 := HB.out
  clear hS hl ho hix hwz hbz hro hrx hrb hM hbl
  go_enter Tryz.func57, Tryz.ntmps57
  go_wp2_with fail
  rw [← HWZ.out]
  cases heq : (M == b) with
  | true =>
    have HE : Hid (cchk b o ix n l = 0) := Lib.hid (by rw [HCC.out, heq]; rfl)
    refine Rc.region (wz.heap.size) 7 [Rc.F 4 (fun _ => .agg (bysA M)) (fun _ _ _ => True)] [] (by kernel_rfl) (Nat.le_refl _) (by kernel_rfl) ?_; intro p; simp only [List.take, List.drop]
    refine Rc.r_load rfl rfl _ _ rfl (.agg (bysA o)) (fun x hx => load_mid (l := []) (r := o) (s := []) (o := 0) (by simpa using (Rp.row_le (Rc.undrew hx) HRO.out)) rfl HO.out) ?_; intro K hK; go_simp; refine hK _ ?_; clear hK K
    refine Rc.r_load rfl rfl _ _ rfl (.agg (bysA ix)) (fun x hx => load_mid (l := []) (r := ix) (s := []) (o := 0) (by simpa using (Rp.row_le (Rc.undrew hx) HRX.out)) rfl HX.out) ?_; intro K hK; go_simp; refine hK _ ?_; clear hK K
    iterate 2 (refine Rc.rK rfl rfl ?_; intro K hK; apply Exists.intro; refine ⟨?_, ?_⟩; (focus (intro x hx;  go_simp; (first | (fail) | ((try go_bits); (try go_simp); (try rfl))))); go_simp; refine hK _ ?_; clear hK K)
    refine Rc.fK rfl rfl rfl rfl ?_ ?_
    · intro x Fs hx hle hg K hK
      have hbx := HBZ.out.trans ((Rc.undrew hx).mono HBZ.out.size)
      go_wp2_with fail
      refine (bind_any o ix n q c l x (HS.out.below hbx) HO.out HX.out (HLZ.out.below (Rc.undrew hx)) h).mono ?_
      rintro e x' ⟨rfl, hb⟩
      rw [← HME.out]
      go_wp2_with fail
      exact hK Rc.dflt x' hb (fun _ _ _ _ => trivial)
    intro K hK; go_simp; refine hK _ ?_; clear hK K
    refine Rc.r_load rfl rfl _ _ rfl (.agg (bysA b)) (fun x hx => load_mid (l := []) (r := b) (s := []) (o := 0) (by simpa using (Rp.row_le (Rc.undrew hx) HRB.out)) rfl HB.out) ?_; intro K hK; go_simp; refine hK _ ?_; clear hK K
    iterate 1 (refine Rc.rK rfl rfl ?_; intro K hK; apply Exists.intro; refine ⟨?_, ?_⟩; (focus (intro x hx;  go_simp; (first | (fail) | ((try go_bits); (try go_simp); (try rfl))))); go_simp; refine hK _ ?_; clear hK K)
    refine Rc.done fun x Fs hx hle hg => ?_
    have HBX := Lib.hid (HBZ.out.trans ((Rc.undrew hx).mono HBZ.out.size))
    clear hx hle hg
    go_wp2_with fail
    refine NoPanic.normal ?_
    go_wp2_with fail
    go_ret
    exact ⟨by rw [HE.out]; rfl, HBX.out⟩
  | false =>
    have HE : Hid (cchk b o ix n l = 17) := Lib.hid (by rw [HCC.out, heq]; rfl)
    refine Rc.region (wz.heap.size) 7 [Rc.F 4 (fun _ => .agg (bysA M)) (fun _ _ _ => True)] [] (by kernel_rfl) (Nat.le_refl _) (by kernel_rfl) ?_; intro p; simp only [List.take, List.drop]
    refine Rc.r_load rfl rfl _ _ rfl (.agg (bysA o)) (fun x hx => load_mid (l := []) (r := o) (s := []) (o := 0) (by simpa using (Rp.row_le (Rc.undrew hx) HRO.out)) rfl HO.out) ?_; intro K hK; go_simp; refine hK _ ?_; clear hK K
    refine Rc.r_load rfl rfl _ _ rfl (.agg (bysA ix)) (fun x hx => load_mid (l := []) (r := ix) (s := []) (o := 0) (by simpa using (Rp.row_le (Rc.undrew hx) HRX.out)) rfl HX.out) ?_; intro K hK; go_simp; refine hK _ ?_; clear hK K
    iterate 2 (refine Rc.rK rfl rfl ?_; intro K hK; apply Exists.intro; refine ⟨?_, ?_⟩; (focus (intro x hx;  go_simp; (first | (fail) | ((try go_bits); (try go_simp); (try rfl))))); go_simp; refine hK _ ?_; clear hK K)
    refine Rc.fK rfl rfl rfl rfl ?_ ?_
    · intro x Fs hx hle hg K hK
      have hbx := HBZ.out.trans ((Rc.undrew hx).mono HBZ.out.size)
      go_wp2_with fail
      refine (bind_any o ix n q c l x (HS.out.below hbx) HO.out HX.out (HLZ.out.below (Rc.undrew hx)) h).mono ?_
      rintro e x' ⟨rfl, hb⟩
      rw [← HME.out]
      go_wp2_with fail
      exact hK Rc.dflt x' hb (fun _ _ _ _ => trivial)
    intro K hK; go_simp; refine hK _ ?_; clear hK K
    refine Rc.r_load rfl rfl _ _ rfl (.agg (bysA b)) (fun x hx => load_mid (l := []) (r := b) (s := []) (o := 0) (by simpa using (Rp.row_le (Rc.undrew hx) HRB.out)) rfl HB.out) ?_; intro K hK; go_simp; refine hK _ ?_; clear hK K
    iterate 1 (refine Rc.rK rfl rfl ?_; intro K hK; apply Exists.intro; refine ⟨?_, ?_⟩; (focus (intro x hx;  go_simp; (first | (fail) | ((try go_bits); (try go_simp); (try rfl))))); go_simp; refine hK _ ?_; clear hK K)
    refine Rc.done fun x Fs hx hle hg => ?_
    have HBX := Lib.hid (HBZ.out.trans ((Rc.undrew hx).mono HBZ.out.size))
    clear hx hle hg
    go_wp2_with fail
    refine NoPanic.normal ?_
    go_wp2_with fail
    go_ret
    exact ⟨by rw [HE.out]; rfl, HBX.out⟩
set_option maxRecDepth 100000 in
set_option maxHeartbeats 4000000 in
theorem pad17_any (l : List UInt8) (b : UInt8) (w0 : World) (hl : l.length = 32) :
    Calls Tryz.prog 61 #[.agg (bysA l), .int .u8 (b.toNat : Int)] w0 fun e w' => ∃ g, e = .returned (.slice (some ⟨g, 0, none⟩) 64 64) ∧ w0.heap.size ≤ g ∧ w'.heap[g]? = some (.cells (bysA (padk l b)) 5 (0, 0)) ∧ Below w0.heap.size w0 w' := by
  obtain ⟨i0, hi, hz0, hz1, hz2⟩ := parts3 info1
  have h64 : l.length ≤ 64 := by omega
  obtain ⟨w, hw⟩ : ∃ w, w = w0.alloc (.cells (bysA l) 22) := ⟨_, rfl⟩
  have hb0 : Below w0.heap.size w0 w := by rw [hw]; exact (Below.refl _ _).alloc (Nat.le_refl _) _
  have HB0 := Lib.hid hb0
  have HLL := Lib.hid hl
  have hr0 : w.heap[w0.heap.size]? = some (.cells (bysA l) 22 (0, 0)) := by rw [hw]; exact Rg.heap_alloc_at _ _ _ rfl
  have HL := Lib.hid (Rd_of_row hr0 rfl (by unfold maxLen; omega))
  have HWE := Lib.hid hw
  clear hl hr0 hb0 hw
  go_enter Tryz.func61, Tryz.ntmps61
  go_wp2_with (rw [← HWE.out]; refine wpList_make_full _ rfl _ _ 23 rfl w.heap.size 5 i0 (.int .u8 0) 1 Tryz.underlying23 hi hz0 hz1 .i64 .i64 _ _ 64 rfl rfl rfl rfl (by rw [hz2]; omega) (by unfold maxLen; omega) (Nat.le_refl _) ?_; go_must (intro w1 hown hg1))
  have hrow1 := own_row hown
  rw [made_bys] at hrow1
  have hb1 : Below w.heap.size w w1 := below_of_grown hg1 (Nat.le_refl _) (fun k hk => by cases hk)
  have hl1 := HL.out.below hb1
  have HR1 := Lib.hid hrow1
  clear hown hg1 hrow1
  have hrun := run_copy_in (P := Tryz.prog) 23 3 5 Tryz.underlying23 infoU8 w.heap.size 64 64 (some ⟨w0.heap.size, 0, none⟩) l.length l.length l (bys (List.replicate 64 0)) 5 HR1.out hl1 h64 (by rw [bys_length, List.length_replicate]; omega)
  rw [fill_row] at hrun
  rw [HLL.out] at hrun
  rw [hrun]
  go_wp2_with fail
  clear hrun
  have HB2 : Hid (Below w.heap.size w (w1.setRow w.heap.size (bys (fill l)).toArray)) := Lib.hid (Rg.below_setRow hb1 (Nat.le_refl _) _)
  have HR2 : Hid ((w1.setRow w.heap.size (bys (fill l)).toArray).heap[w.heap.size]? = some (.cells (bysA (padi l b 0)) 5 (0, 0))) := Lib.hid (by rw [padi_zero]; exact setRow_heap _ _ _ _ _ _ HR1.out)
  obtain ⟨w2, hw2⟩ : ∃ w2, w2 = w1.setRow w.heap.size (bys (fill l)).toArray := ⟨_, rfl⟩
  obtain ⟨g, hg⟩ : ∃ g, g = w.heap.size := ⟨_, rfl⟩
  have HGE : Hid (w.heap.size ≤ g) := Lib.hid (by omega)
  rw [← hw2, ← hg] at HR2
  rw [← hw2] at HB2
  rw [← hw2, ← hg]
  clear hl1 hb1 HR1 HL hw2 hg
  go_loopw [13] (fun i wr => ∃ k : Nat, k ≤ 64 ∧ i = .int .i64 k ∧ wr.heap[g]? = some (.cells (bysA (padi l b k)) 5 (0, 0)) ∧ Below w.heap.size w wr) (fun i _ => 64 - (intOf i).toNat)
  case atStart => exact ⟨0, by omega, rfl, HR2.out, HB2.out⟩
  case round =>
    obtain ⟨k, hk, rfl, hrow, hb⟩ := hrel
    have hlen := padi_length l b k h64
    by_cases hlt : k < 64
    · have c0 := Ref.cell_of_bys hrow (k := k) (by omega)
      rw [padi_at l b k h64 hlt] at c0
      have hset := padi_succ l b k h64 hlt
      obtain ⟨x, hx⟩ : ∃ x, x = bt (fill l) k := ⟨_, rfl⟩
      rw [← hx] at c0 hset
      have f0 : wr.frozen? ⟨g, k, none⟩ = false := frozen_of_row _ _ _ _ _ hrow
      have q1 : (k : Int) < 64 := by omega
      have HROW := Lib.hid hrow
      have HSET := Lib.hid hset
      clear hrow hset hx hlen
      go_wp2
      refine ⟨⟨k + 1, by omega, by go_num, ?_, ?_⟩, by simp [intOf]; omega⟩
      · rw [heap_setCell_same _ _ _ _ _ _ HROW.out, ← HSET.out, ← bysA_set, UInt8.toNat_xor]
      · exact hb.setCell HGE.out _
    · obtain rfl : k = 64 := by omega
      rw [padi_full l b h64] at hrow
      clear hlen
      have HROW := Lib.hid hrow
      clear hrow
      go_wp2
      go_ret
      exact ⟨g, rfl, Nat.le_trans HB0.out.size HGE.out, HROW.out, HB0.out.trans (hb.mono HB0.out.size)⟩
def tin (k ix : List UInt8) (n : Int) (v : List UInt8) : List UInt8 := padk k 54 ++ (ix ++ (eight n ++ v))
def tout (k ix : List UInt8) (n : Int) (v : List UInt8) : List UInt8 := padk k 92 ++ sha (tin k ix n v)
theorem macKey32 {k : List UInt8} (h : k.length = 32) : macKey k = k := by unfold macKey; rw [if_neg (by omega)]
theorem sha_tout {k ix : List UInt8} {n : Int} {v : List UInt8} (h : k.length = 32) : sha (tout k ix n v) = bound k ix n v := by
  unfold tout tin bound hmac
  rw [macKey32 h]
theorem tin_length (k ix : List UInt8) (n : Int) (v : List UInt8) (h : k.length = 32) : (tin k ix n v).length = 64 + (ix.length + (8 + v.length)) := by
  unfold tin; rw [List.length_append, List.length_append, List.length_append, padk_length k 54 (by omega), eight_length]
theorem tout_length (k ix : List UInt8) (n : Int) (v : List UInt8) (h : k.length = 32) : (tout k ix n v).length = 96 := by
  unfold tout; rw [List.length_append, padk_length k 92 (by omega), sha_length]
theorem Ow.of_row {w : World} {base g : Nat} {l : List UInt8} (h : w.heap[g]? = some (.cells (bysA l) 5 (0, 0))) (hb : base ≤ g) (hm : l.length ≤ maxLen) :
    Mem.Ow w base 5 1 (.slice (some ⟨g, 0, none⟩) l.length l.length) l.length (bys l) :=
  ⟨by rw [bys_length, Nat.mul_one], .inr ⟨g, l.length, bysA l, (0, 0), rfl, hb, h, fun j _ => by simp, Nat.le_refl _, hm, by rw [bysA_size, Nat.mul_one], by rw [Nat.mul_one]; show List.take l.length (bys l) = bys l; exact List.take_of_length_le (by rw [bys_length]; exact Nat.le_refl _)⟩⟩
set_option maxRecDepth 100000 in
set_option maxHeartbeats 4000000 in
theorem ctexts_any (k ix : List UInt8) (n : Int) (q : Option Addr) (c : Nat) (l : List UInt8) (w : World) (hS : Sha.Tabs w) (hk : k.length = 32) (hix : ix.length = 32) (hl : Rd w 1 (.slice q l.length c) l.length (bys l)) (h : l.length ≤ 1000000) :
    Calls Tryz.prog 30 #[.agg (bysA k), .agg (bysA ix), .int .i64 n, .slice q l.length c] w fun e w' => ∃ g q1 c1 q2 c2, e = .returned (.slice (some ⟨g, 0, none⟩) 2 2) ∧ w.heap.size ≤ g ∧ w'.heap[g]? = some (.cells #[.slice q1 (tin k ix n l).length c1, .slice q2 (tout k ix n l).length c2] 23 (0, 0)) ∧
      Rd w' 1 (.slice q1 (tin k ix n l).length c1) (tin k ix n l).length (bys (tin k ix n l)) ∧ Rd w' 1 (.slice q2 (tout k ix n l).length c2) (tout k ix n l).length (bys (tout k ix n l)) ∧ (∀ j, (Value.slice q1 (tin k ix n l).length c1).ownBlock = some j → w.heap.size ≤ j) ∧ (∀ j, (Value.slice q2 (tout k ix n l).length c2).ownBlock = some j → w.heap.size ≤ j) ∧ Below w.heap.size w w' := by
  obtain ⟨i0, hi, hz0, hz1, hz2⟩ := parts3 info1
  have HS := Lib.hid hS
  have HK := Lib.hid hk
  have HX := Lib.hid hix
  obtain ⟨wz, hwz⟩ : ∃ wz, wz = (w.alloc (.cells (bysA k) 22)).alloc (.cells (bysA ix) 22) := ⟨_, rfl⟩
  have hbz : Below w.heap.size w wz := by rw [hwz]; exact ((Below.refl _ _).alloc (Nat.le_refl _) _).alloc (by simp) _
  have hrk : wz.heap[w.heap.size]? = some (.cells (bysA k) 22 (0, 0)) := by rw [hwz]; exact (Rg.heap_alloc_past _ _ _ (by simp)).trans (Rg.heap_alloc_at w _ _ rfl)
  have hrx : wz.heap[w.heap.size + 1]? = some (.cells (bysA ix) 22 (0, 0)) := by rw [hwz]; exact Rg.heap_alloc_at _ _ _ (by simp)
  have HWZ := Lib.hid hwz
  have HBZ := Lib.hid hbz
  have HRK := Lib.hid hrk
  have HRX := Lib.hid hrx
  have HLZ := Lib.hid (hl.below hbz)
  have HLL := Lib.hid h
  obtain ⟨p1, hp1⟩ : ∃ p1, p1 = padk k 54 := ⟨_, rfl⟩
  obtain ⟨p2, hp2⟩ : ∃ p2, p2 = padk k 92 := ⟨_, rfl⟩
  have HP1L : Hid (p1.length = 64) := Lib.hid (by rw [hp1]; exact padk_length _ _ (by omega))
  have HP2L : Hid (p2.length = 64) := Lib.hid (by rw [hp2]; exact padk_length _ _ (by omega))
  obtain ⟨T, hT⟩ : ∃ T, T = tin k ix n l := ⟨_, rfl⟩
  obtain ⟨U, hU⟩ : ∃ U, U = tout k ix n l := ⟨_, rfl⟩
  have HTL : Hid (T.length = 64 + 32 + 8 + l.length) := Lib.hid (by rw [hT, tin_length _ _ _ _ hk, hix]; omega)
  have HUL : Hid (U.length = 64 + 32) := Lib.hid (by rw [hU, tout_length _ _ _ _ hk])
  have HTE : Hid (p1 ++ ix ++ eight n ++ l = T) := Lib.hid (by rw [hT, hp1]; unfold tin; simp)
  have HUE : Hid (p2 ++ sha T = U) := Lib.hid (by rw [hT, hU, hp2]; unfold tout; rfl)
  rw [← hT, ← hU]
  have HP1 := Lib.hid hp1
  have HP2 := Lib.hid hp2
  clear hS hk hix hwz hbz hrk hrx hl h hp1 hp2 hT hU
  go_enter Tryz.func30, Tryz.ntmps30
  go_wp2_with fail
  rw [← HWZ.out]
  refine Rc.region (wz.heap.size) 9 [Rc.F 1 (fun p => .slice p.q 64 p.c) (fun p F y => OwF F y wz.heap.size 5 1 (.slice p.q 64 p.c) 64 (bys p1)), Rc.C 3 [1] [1] (fun p => .slice p.q 96 p.c) (fun p F y => OwF F y wz.heap.size 5 1 (.slice p.q 96 p.c) 96 (bys (p1 ++ ix))), Rc.F 5 (fun p => .slice p.q 8 p.c) (fun p _ y => Rd y 1 (.slice p.q 8 p.c) 8 (bys (eight n))), Rc.C 6 [3, 5] [3] (fun p => .slice p.q 104 p.c) (fun p F y => OwF F y wz.heap.size 5 1 (.slice p.q 104 p.c) 104 (bys (p1 ++ ix ++ eight n))), Rc.C 8 [6] [6] (fun p => .slice p.q T.length p.c) (fun p F y => OwF F y wz.heap.size 5 1 (.slice p.q T.length p.c) T.length (bys T))] [8] (by kernel_rfl) (Nat.le_refl _) (by kernel_rfl) ?_; intro p; simp only [List.take, List.drop]
  refine Rc.r_load rfl rfl _ _ rfl (.agg (bysA k)) (fun x hx => load_mid (l := []) (r := k) (s := []) (o := 0) (by simpa using (Rp.row_le (Rc.undrew hx) HRK.out)) rfl HK.out) ?_; intro K hK; go_simp; refine hK _ ?_; clear hK K
  refine Rc.fK rfl rfl rfl rfl ?_ ?_
  · intro x Fs hx hle hg K hK
    go_wp2_with fail
    refine (pad17_any k 54 x HK.out).mono ?_
    rintro e x' ⟨g, rfl, hgs, hrow, hb⟩
    rw [← HP1.out] at hrow
    have how := Ow.of_row hrow hgs (by rw [HP1L.out]; decide)
    rw [HP1L.out] at how
    go_wp2_with fail
    exact hK ⟨some ⟨g, 0, none⟩, 64, undef⟩ x' hb (fun F y hF hy => OwF.fresh how hle hF hy)
  intro K hK; go_simp; refine hK _ ?_; clear hK K
  iterate 1 (refine Rc.rK rfl rfl ?_; intro K hK; apply Exists.intro; refine ⟨?_, ?_⟩; (focus (intro x hx;  go_simp; (first | (fail) | ((try go_bits); (try go_simp); (try rfl))))); go_simp; refine hK _ ?_; clear hK K)
  refine Rc.cK rfl rfl rfl ?_ ?_
  · intro x Fs hx hle hg K hK
    have HO : Hid (OwF (Fs 1) x wz.heap.size 5 1 (.slice (p 1).q 64 (p 1).c) 64 (bys p1)) := Lib.hid hg.1
    have hrl := Rd_of_row (Rp.row_le (Rc.undrew hx) HRX.out) HX.out (by decide)
    refine app_ow3 rfl _ _ 23 23 rfl wz.heap.size 5 i0 (.int .u8 0) 1 1 Tryz.underlying23 hi hz0 hz1 hz2 rfl _ 64 _ rfl HO.out.1 32 _ rfl (Rd.src Tryz.underlying23 hrl (bys_one _)) (by decide) (by decide) hle ?_
    intro v' x' how hg' hor
    obtain ⟨q', c', rfl⟩ := Ow_form how
    rw [← bys_append] at how
    have how : Mem.Ow x' wz.heap.size 5 1 (.slice q' 96 c') 96 (bys (p1 ++ ix)) := how
    go_wp2_with fail
    exact hK ⟨q', c', undef⟩ x' (HO.out.eff (by simp [Rc.C]) hg') (fun y hy => HO.out.next (by simp [Rc.C]) how hor hy)
  intro K hK; go_simp; refine hK _ ?_; clear hK K
  iterate 1 (refine Rc.rK rfl rfl ?_; intro K hK; apply Exists.intro; refine ⟨?_, ?_⟩; (focus (intro x hx;  go_simp; (first | (fail) | ((try go_bits); (try go_simp); (try rfl))))); go_simp; refine hK _ ?_; clear hK K)
  refine Rc.fK rfl rfl rfl rfl ?_ ?_
  · intro x Fs hx hle hg K hK
    go_wp2_with fail
    refine (number_any n x).mono ?_
    rintro e x' ⟨v, rfl, hown, hb⟩
    obtain ⟨q', c', rfl⟩ := Ow_form hown
    go_wp2_with fail
    exact hK ⟨q', c', undef⟩ x' hb (fun F y hF hy => Rd.of_ow (OwF.fresh hown hle hF hy).1)
  intro K hK; go_simp; refine hK _ ?_; clear hK K
  refine Rc.cK rfl rfl rfl ?_ ?_
  · intro x Fs hx hle hg K hK
    have HO : Hid (OwF (Fs 3) x wz.heap.size 5 1 (.slice (p 3).q 96 (p 3).c) 96 (bys (p1 ++ ix))) := Lib.hid hg.1
    have hrl : Rd x 1 (.slice (p 5).q 8 (p 5).c) 8 (bys (eight n)) := hg.2.1
    refine app_ow3 rfl _ _ 23 23 rfl wz.heap.size 5 i0 (.int .u8 0) 1 1 Tryz.underlying23 hi hz0 hz1 hz2 rfl _ 96 _ rfl HO.out.1 8 _ rfl (Rd.src Tryz.underlying23 hrl (bys_one _)) (by decide) (by decide) hle ?_
    intro v' x' how hg' hor
    obtain ⟨q', c', rfl⟩ := Ow_form how
    rw [← bys_append] at how
    have how : Mem.Ow x' wz.heap.size 5 1 (.slice q' 104 c') 104 (bys (p1 ++ ix ++ eight n)) := how
    go_wp2_with fail
    exact hK ⟨q', c', undef⟩ x' (HO.out.eff (by simp [Rc.C]) hg') (fun y hy => HO.out.next (by simp [Rc.C]) how hor hy)
  intro K hK; go_simp; refine hK _ ?_; clear hK K
  iterate 1 (refine Rc.rK rfl rfl ?_; intro K hK; apply Exists.intro; refine ⟨?_, ?_⟩; (focus (intro x hx;  go_simp; (first | (fail) | ((try go_bits); (try go_simp); (try rfl))))); go_simp; refine hK _ ?_; clear hK K)
  refine Rc.cK rfl rfl rfl ?_ ?_
  · intro x Fs hx hle hg K hK
    have HO : Hid (OwF (Fs 6) x wz.heap.size 5 1 (.slice (p 6).q 104 (p 6).c) 104 (bys (p1 ++ ix ++ eight n))) := Lib.hid hg.1
    have hrl := HLZ.out.below (Rc.undrew hx)
    refine app_ow3 rfl _ _ 23 23 rfl wz.heap.size 5 i0 (.int .u8 0) 1 1 Tryz.underlying23 hi hz0 hz1 hz2 rfl _ 104 _ rfl HO.out.1 l.length _ rfl (Rd.src Tryz.underlying23 hrl (bys_one _)) (by have := HLL.out; unfold maxLen; omega) (by have := HLL.out; omega) hle ?_
    intro v' x' how hg' hor
    obtain ⟨q', c', rfl⟩ := Ow_form how
    rw [← bys_append, HTE.out, show 104 + l.length = T.length from HTL.out.symm] at how
    rw [show 104 + l.length = T.length from HTL.out.symm] at hor
    rw [show 104 + l.length = T.length from HTL.out.symm]
    go_wp2_with fail
    exact hK ⟨q', c', undef⟩ x' (HO.out.eff (by simp [Rc.C]) hg') (fun y hy => HO.out.next (by simp [Rc.C]) how hor hy)
  intro K hK; go_simp; refine hK _ ?_; clear hK K
  refine Rc.done fun x Fs hx hle hg => ?_
  obtain ⟨q1, hq1⟩ : ∃ q1, q1 = (p 8).q := ⟨_, rfl⟩
  obtain ⟨c1, hc1⟩ : ∃ c1, c1 = (p 8).c := ⟨_, rfl⟩
  have hot : Rd x 1 (.slice q1 T.length c1) T.length (bys T) := Rd.of_ow (by rw [hq1, hc1]; exact hg.1.1)
  have HRT := Lib.hid hot
  have HF1 : Hid (∀ j, (Value.slice q1 T.length c1).ownBlock = some j → w.heap.size ≤ j) := Lib.hid (fun j hj => by
    rw [hq1, hc1] at hj
    exact Nat.le_trans HBZ.out.size (hg.1.1.lt j hj).1)
  have HRK1 := Lib.hid (Rp.row_le (Rc.undrew hx) HRK.out)
  have HB1 := Lib.hid (HBZ.out.trans ((Rc.undrew hx).mono HBZ.out.size))
  rw [← hq1, ← hc1]
  clear hot hg hx hle hq1 hc1 HRK HRX HLZ HWZ HBZ
  go_wp2_with fail
  refine NoPanic.normal ?_
  go_wp2_with fail
  have hx2 : Below x.heap.size x (x.alloc (.cells #[.slice q1 T.length c1] 23)) := (Below.refl _ _).alloc (Nat.le_refl _) _
  have hp := parts_any (some ⟨x.heap.size, 0, none⟩) 1 [T] _ (HS.out.below (HB1.out.trans (hx2.mono HB1.out.size))) (Parts.lit1 x T _ ⟨q1, c1, rfl, HRT.out⟩) (by have := HTL.out; have := HLL.out; simp only [List.flatten_cons, List.flatten_nil, List.append_nil]; omega)
  rw [show [T].flatten = T by simp] at hp
  obtain ⟨D, hD⟩ : ∃ D, D = sha T := ⟨_, rfl⟩
  have HDL : Hid (D.length = 32) := Lib.hid (by rw [hD]; exact sha_length _)
  have HDE := Lib.hid hD
  rw [← hD] at hp
  have HX2 := Lib.hid hx2
  clear hD hx2
  refine hp.mono ?_
  clear hp
  rintro e w2 ⟨rfl, hb2⟩
  have hb2 := HX2.out.trans (hb2.mono HX2.out.size)
  have HRT2 := Lib.hid (HRT.out.below hb2)
  have HRK2 := Lib.hid (Rp.row_le hb2 HRK1.out)
  have HB2 := Lib.hid (HB1.out.trans (hb2.mono HB1.out.size))
  have HID : Hid ((Tryz.prog.info? 22).map (·.size) = some (bysA D).size) := Lib.hid (by rw [bysA_size, HDL.out]; exact info32)
  obtain ⟨w3, hw3⟩ : ∃ w3, w3 = w2.alloc (.cells (bysA zeros32) 22) := ⟨_, rfl⟩
  have hb3 : Below w2.heap.size w2 w3 := by rw [hw3]; exact (Below.refl _ _).alloc (Nat.le_refl _) _
  have hr3 : w3.heap[w2.heap.size]? = some (.cells (bysA zeros32) 22 (0, 0)) := by rw [hw3]; exact Rg.heap_alloc_at _ _ _ rfl
  have hr4 := setRow_heap w3 w2.heap.size _ (bysA D) _ _ hr3
  have hb4 := Rg.below_setRow hb3 (Nat.le_refl _) (bysA D)
  have HW3 := Lib.hid hw3
  have HR3 := Lib.hid hr3
  have HR4 := Lib.hid hr4
  have HB4 := Lib.hid hb4
  clear hb2 HRT HRK1 HB1 HX2 hw3 hb3 hr3 hr4 hb4
  go_wp2_with (rw [z32, ← HW3.out]; refine Rg.store_row rfl 22 _ _ rfl w2.heap.size rfl 22 (bysA zeros32) (bysA D) rfl HR3.out HID.out (by rw [bysA_size, bysA_size, HDL.out]; rfl) (bysA_one _) ?_)
  obtain ⟨w4, hw4⟩ : ∃ w4, w4 = w3.setRow w2.heap.size (bysA D) := ⟨_, rfl⟩
  have hb4 : Below w2.heap.size w2 w4 := by rw [hw4]; exact HB4.out
  have hr4 : w4.heap[w2.heap.size]? = some (.cells (bysA D) 22 (0, 0)) := by rw [hw4]; exact HR4.out
  rw [← hw4]
  have HRD := Lib.hid hr4
  have HRT4 := Lib.hid (HRT2.out.below hb4)
  have HRK4 := Lib.hid (Rp.row_le hb4 HRK2.out)
  have HB5 := Lib.hid (HB2.out.trans (hb4.mono HB2.out.size))
  clear hw4 hb4 hr4 HR3 HR4 HB4 HRT2 HRK2 HB2 HW3
  refine Rc.region (w4.heap.size) 6 [Rc.F 2 (fun p => .slice p.q 64 p.c) (fun p F y => OwF F y w4.heap.size 5 1 (.slice p.q 64 p.c) 64 (bys p2)), Rc.C 4 [2] [2] (fun p => .slice p.q 96 p.c) (fun p F y => Mem.Ow y w4.heap.size 5 1 (.slice p.q 96 p.c) 96 (bys U)), ⟨5, [4], [], some (fun _ pj => .slice pj.q 2 2), fun p pj F y => ∃ g, pj.q = some ⟨g, 0, none⟩ ∧ w4.heap.size ≤ g ∧ y.heap[g]? = some (.cells #[.slice q1 T.length c1, .slice (p 4).q 96 (p 4).c] 23 (0, 0))⟩] [4, 5] (by kernel_rfl) (Nat.le_refl _) (by kernel_rfl) ?_; intro p; simp only [List.take, List.drop]
  iterate 1 (refine Rc.rK rfl rfl ?_; intro K hK; apply Exists.intro; refine ⟨?_, ?_⟩; (focus (intro x hx;  go_simp; (first | (fail) | ((try go_bits); (try go_simp); (try rfl))))); go_simp; refine hK _ ?_; clear hK K)
  refine Rc.r_load rfl rfl _ _ rfl (.agg (bysA k)) (fun x hx => load_mid (l := []) (r := k) (s := []) (o := 0) (by simpa using (Rp.row_le (Rc.undrew hx) HRK4.out)) rfl HK.out) ?_; intro K hK; go_simp; refine hK _ ?_; clear hK K
  refine Rc.fK rfl rfl rfl rfl ?_ ?_
  · intro x Fs hx hle hg K hK
    go_wp2_with fail
    refine (pad17_any k 92 x HK.out).mono ?_
    rintro e x' ⟨g, rfl, hgs, hrow, hb⟩
    rw [← HP2.out] at hrow
    have how := Ow.of_row hrow hgs (by rw [HP2L.out]; decide)
    rw [HP2L.out] at how
    go_wp2_with fail
    exact hK ⟨some ⟨g, 0, none⟩, 64, undef⟩ x' hb (fun F y hF hy => OwF.fresh how hle hF hy)
  intro K hK; go_simp; refine hK _ ?_; clear hK K
  iterate 1 (refine Rc.rK rfl rfl ?_; intro K hK; apply Exists.intro; refine ⟨?_, ?_⟩; (focus (intro x hx;  go_simp; (first | (fail) | ((try go_bits); (try go_simp); (try rfl))))); go_simp; refine hK _ ?_; clear hK K)
  refine Rc.cK rfl rfl rfl ?_ ?_
  · intro x Fs hx hle hg K hK
    have HO : Hid (OwF (Fs 2) x w4.heap.size 5 1 (.slice (p 2).q 64 (p 2).c) 64 (bys p2)) := Lib.hid hg.1
    have hrl := Rd_of_row (Rp.row_le (Rc.undrew hx) HRD.out) HDL.out (by decide)
    refine app_ow3 rfl _ _ 23 23 rfl w4.heap.size 5 i0 (.int .u8 0) 1 1 Tryz.underlying23 hi hz0 hz1 hz2 rfl _ 64 _ rfl HO.out.1 32 _ rfl (Rd.src Tryz.underlying23 hrl (bys_one _)) (by decide) (by decide) hle ?_
    intro v' x' how hg' hor
    obtain ⟨q', c', rfl⟩ := Ow_form how
    rw [← bys_append, HDE.out, HUE.out] at how
    have how : Mem.Ow x' w4.heap.size 5 1 (.slice q' 96 c') 96 (bys U) := how
    go_wp2_with fail
    exact hK ⟨q', c', undef⟩ x' (HO.out.eff (by simp [Rc.C]) hg') (fun y hy => (HO.out.next (by simp [Rc.C]) how hor hy).1)
  intro K hK; go_simp; refine hK _ ?_; clear hK K
  refine Rc.fK rfl rfl rfl rfl ?_ ?_
  · intro x Fs hx hle hg K hK
    go_wp2_with fail
    refine hK ⟨some ⟨x.heap.size, 0, none⟩, 2, undef⟩ _ ((Below.refl _ _).alloc (Nat.le_refl _) _) fun F y hF hy => ⟨x.heap.size, rfl, hle, ?_⟩
    exact (hy.block x.heap.size (by simp) (.inr (hF _ (Nat.le_refl _) (by simp)))).trans (Rg.heap_alloc_at _ _ _ rfl)
  intro K hK; go_simp; refine hK _ ?_; clear hK K
  refine Rc.done fun x Fs hx hle hg => ?_
  obtain ⟨g, hgq, hgle, hgrow⟩ : ∃ g, (p 5).q = some ⟨g, 0, none⟩ ∧ w4.heap.size ≤ g ∧ x.heap[g]? = some (.cells #[.slice q1 T.length c1, .slice (p 4).q 96 (p 4).c] 23 (0, 0)) := hg.2.1
  have huo : Mem.Ow x w4.heap.size 5 1 (.slice (p 4).q 96 (p 4).c) 96 (bys U) := hg.1
  have hu := Rd.of_ow huo
  have HF2 : Hid (∀ j, (Value.slice (p 4).q 96 (p 4).c).ownBlock = some j → w.heap.size ≤ j) := Lib.hid (fun j hj => Nat.le_trans HB5.out.size (huo.lt j hj).1)
  have HUU := Lib.hid hu
  have HGR := Lib.hid hgrow
  have HGL := Lib.hid hgle
  have HRT5 := Lib.hid (HRT4.out.below (Rc.undrew hx))
  have HB6 := Lib.hid (HB5.out.trans ((Rc.undrew hx).mono HB5.out.size))
  obtain ⟨c2, hc2⟩ : ∃ c2, c2 = (p 4).c := ⟨_, rfl⟩
  obtain ⟨q2, hq2⟩ : ∃ q2, q2 = (p 4).q := ⟨_, rfl⟩
  rw [← hc2, ← hq2] at HUU HGR HF2
  rw [hgq, ← hc2, ← hq2]
  clear huo hu hgrow hgle hg hx hle hc2 hq2 hgq
  go_wp2_with fail
  refine NoPanic.normal ?_
  go_wp2_with fail
  go_ret
  exact ⟨g, q1, c1, q2, c2, rfl, Nat.le_trans HB5.out.size HGL.out, by rw [HUL.out]; exact HGR.out, HRT5.out, by rw [HUL.out]; exact HUU.out, HF1.out, by rw [HUL.out]; exact HF2.out, HB6.out⟩
end Ref
end Go.Proofs.YtmonkggoilhngaaGreatDoor

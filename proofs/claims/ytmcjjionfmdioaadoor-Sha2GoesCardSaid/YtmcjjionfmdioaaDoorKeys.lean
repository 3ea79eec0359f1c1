/- The walks of custumalref03.Eight and Key, hmac.Key. -/
import Derived.Test.YtmcjjionfmdioaaDoorMacR
import Derived.Test.YtmcjjionfmdioaaDoorEqA
namespace Go.Proofs.YtmcjjionfmdioaaDoor
open Go.RowKit Bits Mem Sha
namespace Ref
/-- A number as eight bytes, the highest first. -/
def u64 (n : Int) : Nat := (n % 18446744073709551616).toNat
def eight (n : Int) : List UInt8 := be (u64 n) 8
theorem u64_wrap (n : Int) : IntKind.u64.wrap n = (u64 n : Int) := by rw [IntKind.wrap_u64]; unfold u64; omega
theorem eight_length (n : Int) : (eight n).length = 8 := be_length _ _
theorem byte_at (u j : Nat) (hj : j < 8) : (u : Int) / 2 ^ (56 - 8 * j) % 256 = ((UInt8.ofNat (u / 2 ^ (8 * (7 - j)))).toNat : Int) := by
  rw [UInt8.toNat_ofNat', show 8 * (7 - j) = 56 - 8 * j from by omega]; simp
set_option maxRecDepth 100000 in
set_option maxHeartbeats 1000000 in
theorem eight_any (n : Int) (w : World) :
    Calls Tryd.prog 51 #[.int .i64 n] w fun e w' => e = .returned (.string ⟨(eight n).toArray⟩) ∧ Below w.heap.size w w' := by
  have hwu := u64_wrap n
  obtain ⟨u, hu⟩ : ∃ u, u = u64 n := ⟨_, rfl⟩
  rw [← hu] at hwu
  have HU := Lib.hid hu
  clear hu
  go_enter Tryd.func51, Tryd.ntmps51
  go_wp2_with fail
  go_loopw [3, 4] (fun v i wr => ∃ j : Nat, j ≤ 8 ∧ i = .int .i64 (56 - 8 * (j : Int)) ∧ v = .string ⟨(be u j).toArray⟩ ∧ Below w.heap.size w wr) (fun _ i _ => (intOf i + 8).toNat)
  case atStart => exact ⟨0, by omega, rfl, rfl, Below.refl _ _⟩
  case round =>
    obtain ⟨j, hj, rfl, rfl, hb⟩ := hrel
    have hszw := hb.size
    by_cases hlt : j < 8
    · have hge : (0 : Int) ≤ 56 - 8 * (j : Int) := by omega
      have hb8 := byte_at u j hlt
      have HS := Lib.hid (be_succ u j)
      obtain ⟨x, hx⟩ : ∃ x, x = UInt8.ofNat (u / 2 ^ (8 * (7 - j))) := ⟨_, rfl⟩
      rw [← hx] at hb8 HS
      have hc : ¬ (9223372036854775807 < (be u j).length + 1) := by rw [be_length]; omega
      have HR : Hid (∀ w1 : World, Rd (w1.alloc (.cells #[.int .u8 (x.toNat : Int)] 5)) 1 (.slice (some ⟨w1.heap.size, 0, none⟩) 1 1) 1 (bys [x])) := Lib.hid (fun w1 => Rd_lit w1 #[.int .u8 (x.toNat : Int)] 5 1 1 rfl (by decide))
      clear hx
      go_wp2_with (refine conv_str rfl 28 9 _ rfl 5 Tryd.underlying9 Tryd.underlying28 Tryd.underlying5 _ 1 [x] rfl (HR.out wr) ?_)
      refine ⟨⟨j + 1, by omega, by congr 1; omega, by rw [HS.out], hb.alloc hszw _⟩, by simp [intOf]; omega⟩
    · obtain rfl : j = 8 := by omega
      rw [show (56 - 8 * ((8 : Nat) : Int)) = -8 from rfl]
      go_wp2_with fail
      go_ret
      exact ⟨by unfold eight; rw [← HU.out]; first | done | rfl, hb⟩
def e8 (u j : Nat) : List UInt8 := be u j ++ List.replicate (8 - j) 0
theorem e8_length (u j : Nat) (h : j ≤ 8) : (e8 u j).length = 8 := by unfold e8; rw [List.length_append, be_length, List.length_replicate]; omega
theorem e8_zero (u : Nat) : e8 u 0 = List.replicate 8 0 := rfl
theorem e8_full (u : Nat) : e8 u 8 = be u 8 := by simp [e8]
theorem e8_set (u j : Nat) (h : j < 8) : (e8 u j).set j (UInt8.ofNat (u / 2 ^ (8 * (7 - j)))) = e8 u (j + 1) := by
  unfold e8
  rw [List.set_append_right _ _ (by rw [be_length]; exact Nat.le_refl _), be_length, Nat.sub_self, be_succ, List.append_assoc, show 8 - j = (8 - (j + 1)) + 1 by omega, List.replicate_succ, List.set_cons_zero]
  rfl
theorem Parts.lit3 (w : World) (a b c : List UInt8) (x y z : Value) (hx : ∃ q c, x = .slice q a.length c ∧ Rd w 1 (.slice q a.length c) a.length (bys a)) (hy : ∃ q c, y = .slice q b.length c ∧ Rd w 1 (.slice q b.length c) b.length (bys b)) (hz : ∃ q k, z = .slice q c.length k ∧ Rd w 1 (.slice q c.length k) c.length (bys c)) :
    Parts (w.alloc (.cells #[x, y, z] 28)) (.slice (some ⟨w.heap.size, 0, none⟩) 3 3) [a, b, c] := by
  have hb : Below w.heap.size w (w.alloc (.cells #[x, y, z] 28)) := (Below.refl _ _).alloc (Nat.le_refl _) _
  refine ⟨[x, y, z], Rd_lit w #[x, y, z] 28 1 3 rfl (by decide), fun i hi => ?_⟩
  obtain ⟨q, k, rfl, hx⟩ := hx
  obtain ⟨q', k', rfl, hy⟩ := hy
  obtain ⟨q2, k2, rfl, hz⟩ := hz
  match i, hi with
  | 0, _ => exact ⟨q, k, rfl, hx.below hb⟩
  | 1, _ => exact ⟨q', k', rfl, hy.below hb⟩
  | 2, _ => exact ⟨q2, k2, rfl, hz.below hb⟩
set_option maxRecDepth 100000 in
set_option maxHeartbeats 1000000 in
theorem key_any (k m : List UInt8) (n : Int) (w : World) (hS : Sha.Tabs w) (hk : k.length = 32) (hm : m.length ≤ 1000000) :
    Calls Tryd.prog 44 #[.agg (bysA k), .string ⟨m.toArray⟩, .int .i64 n] w fun e w' => e = .returned (.agg (bysA (hmac k (m ++ 0 :: eight n)))) ∧ Below w.heap.size w w' := by
  have HS := Lib.hid hS; clear hS
  have HK := Lib.hid hk; clear hk
  have hwu := u64_wrap n
  obtain ⟨u, hu⟩ : ∃ u, u = u64 n := ⟨_, rfl⟩
  rw [← hu] at hwu
  have HU := Lib.hid hu
  clear hu
  obtain ⟨i0, hi, hz0, hz1, hz2⟩ := parts3 info1
  go_enter Tryd.func44, Tryd.ntmps44
  go_wp2_with (refine wpList_make_full _ rfl _ _ 28 rfl 0 5 i0 (.int .u8 0) 1 Tryd.underlying28 hi hz0 hz1 .i64 .i64 _ _ 8 rfl rfl rfl rfl (by rw [hz2]; omega) (by unfold maxLen; omega) (Nat.zero_le _) ?_; go_must (intro w1 hown hg1))
  rw [z32] at hown hg1
  obtain ⟨wz, hwz⟩ : ∃ wz, wz = (w.alloc (.cells (bysA k) 25)).alloc (.cells (bysA zeros32) 25) := ⟨_, rfl⟩
  have hws : wz.heap.size = w.heap.size + 1 + 1 := by rw [hwz]; simp
  have hbz : Below w.heap.size w wz := by rw [hwz]; exact ((Below.refl _ _).alloc (Nat.le_refl _) _).alloc (by simp) _
  have hrk : wz.heap[w.heap.size]? = some (.cells (bysA k) 25 (0, 0)) := by rw [hwz]; exact (Rg.heap_alloc_past _ _ _ (by simp)).trans (Rg.heap_alloc_at w _ _ rfl)
  have hrz : wz.heap[w.heap.size + 1]? = some (.cells (bysA zeros32) 25 (0, 0)) := by rw [hwz]; exact Rg.heap_alloc_at _ _ _ (by simp)
  rw [← hwz] at hown hg1
  have hrow1 := own_row hown
  rw [made_bys] at hrow1
  have hb1 : Below wz.heap.size wz w1 := below_of_grown hg1 (Nat.le_refl _) (fun k hk => by cases hk)
  have HB1 := Lib.hid (hbz.trans (hb1.mono hbz.size))
  have HRK1 := Lib.hid (Rp.row_le hb1 hrk)
  have HRZ1 := Lib.hid (Rp.row_le hb1 hrz)
  obtain ⟨g, hg⟩ : ∃ g, g = w.heap.size + 1 + 1 := ⟨_, rfl⟩
  rw [hws, ← hg] at hrow1
  have HRB1 := Lib.hid hrow1
  have HG := Lib.hid hg
  rw [← hg]
  clear hwz hws hbz hrk hrz hown hg1 hrow1 hb1 hg
  go_loopw [12] (fun i wr => ∃ j : Nat, j ≤ 8 ∧ i = .int .i64 j ∧ wr.heap[g]? = some (.cells (bysA (e8 u j)) 5 (0, 0)) ∧ wr.heap[w.heap.size]? = some (.cells (bysA k) 25 (0, 0)) ∧ wr.heap[w.heap.size + 1]? = some (.cells (bysA zeros32) 25 (0, 0)) ∧ Below w.heap.size w wr) (fun i _ => 8 - (intOf i).toNat)
  case atStart => exact ⟨0, by omega, rfl, by rw [e8_zero]; exact HRB1.out, HRK1.out, HRZ1.out, HB1.out⟩
  case round =>
    obtain ⟨j, hj, rfl, hrb, hrk, hrz, hb⟩ := hrel
    have HRB := Lib.hid hrb
    have HRK := Lib.hid hrk
    have HRZ := Lib.hid hrz
    by_cases hlt : j < 8
    · have hx := byte_at u j hlt
      have HSET := Lib.hid (e8_set u j hlt)
      obtain ⟨x, hxe⟩ : ∃ x, x = UInt8.ofNat (u / 2 ^ (8 * (7 - j))) := ⟨_, rfl⟩
      rw [← hxe] at hx HSET
      rw [show 56 - 8 * j = 8 * (7 - j) by omega] at hx
      have h7 : (0 : Int) ≤ 8 * (7 - (j : Int)) := by omega
      have ht : (8 * (7 - (j : Int))).toNat = 8 * (7 - j) := by omega
      have hel := e8_length u j hj
      have hc := cell_of_bys hrb (k := j) (by omega)
      have hf : wr.frozen? ⟨g, j, none⟩ = false := frozen_of_row _ _ _ _ _ hrb
      have q1 : (j : Int) < 8 := by omega
      clear hxe hrb hrk hrz hel
      go_wp2_with fail
      refine ⟨⟨j + 1, by omega, by go_num, ?_, ?_, ?_, ?_⟩, by simp [intOf]; omega⟩
      · rw [heap_setCell_same _ _ _ _ _ _ HRB.out, bysA_set, HSET.out]
      · rw [heap_setCell_other _ _ _ _ (by have := HG.out; simp; omega)]; exact HRK.out
      · rw [heap_setCell_other _ _ _ _ (by have := HG.out; simp; omega)]; exact HRZ.out
      · exact hb.setCell (by have := HG.out; simp; omega) _
    · obtain rfl : j = 8 := by omega
      have HCM : Hid (m.length ≤ 1000000) := Lib.hid hm
      clear hrb hrk hrz
      have HKR := Lib.hid (Rd_of_row HRK.out HK.out (by decide))
      have HBR := Lib.hid (Rd_of_row HRB.out (e8_length u 8 (Nat.le_refl _)) (by decide))
      rw [e8_full] at HBR
      go_wp2_with (refine conv_bytes rfl 9 28 _ rfl 5 Tryd.underlying9 Tryd.underlying28 Tryd.underlying5 ⟨m.toArray⟩ rfl wr.heap.size (Nat.le_refl _) (by show m.length ≤ maxLen; unfold maxLen; omega) ?_; go_must (intro vm w2 howm hbm); go_must (obtain ⟨qm, cm, rfl⟩ := Ow_form howm))
      have howm' : Ow w2 wr.heap.size 5 1 (.slice qm m.length cm) m.length (bys m) := howm
      have hx3 : Below w2.heap.size w2 (w2.alloc (.cells #[.int .u8 0] 5)) := (Below.refl _ _).alloc (Nat.le_refl _) _
      have hr0 : Rd (w2.alloc (.cells #[.int .u8 0] 5)) 1 (.slice (some ⟨w2.heap.size, 0, none⟩) 1 1) 1 (bys [0]) := Rd_lit w2 #[.int .u8 0] 5 1 1 rfl (by decide)
      obtain ⟨w3, hw3⟩ : ∃ w3, w3 = w2.alloc (.cells #[.int .u8 0] 5) := ⟨_, rfl⟩
      have hs3 : w3.heap.size = w2.heap.size + 1 := by rw [hw3]; simp
      rw [← hw3] at hx3 hr0
      rw [← hw3, ← hs3]
      have h2r : Below wr.heap.size wr w3 := hbm.trans (hx3.mono hbm.size)
      have hp := Parts.lit3 w3 m [0] (be u 8) (.slice qm m.length cm) (.slice (some ⟨w2.heap.size, 0, none⟩) 1 1) (.slice (some ⟨g, 0, none⟩) 8 8) ⟨_, _, rfl, (Rd.of_ow howm').below hx3⟩ ⟨_, _, rfl, hr0⟩ ⟨_, _, by rw [be_length], by rw [be_length]; exact HBR.out.below h2r⟩
      have hx4 : Below w3.heap.size w3 (w3.alloc (.cells #[.slice qm m.length cm, .slice (some ⟨w2.heap.size, 0, none⟩) 1 1, .slice (some ⟨g, 0, none⟩) 8 8] 28)) := (Below.refl _ _).alloc (Nat.le_refl _) _
      have h4r : Below wr.heap.size wr (w3.alloc (.cells #[.slice qm m.length cm, .slice (some ⟨w2.heap.size, 0, none⟩) 1 1, .slice (some ⟨g, 0, none⟩) 8 8] 28)) := h2r.trans (hx4.mono h2r.size)
      have hof := of_any (some ⟨w.heap.size, 0, none⟩) 32 k _ _ [m, [0], be u 8] _ (HS.out.below (hb.trans (h4r.mono hb.size))) (by rw [HK.out]; exact HKR.out.below h4r) hp (by simp [be_length]; omega) (by rw [HK.out]; omega)
      rw [HK.out] at hof
      have hfl : [m, [0], be u 8].flatten = m ++ 0 :: eight n := by unfold eight; rw [← HU.out]; simp
      rw [hfl] at hof
      have HB4 := Lib.hid h4r
      clear howm howm' hx3 hr0 hw3 hs3 h2r hp hx4 h4r hfl hbm
      refine hof.mono ?_
      clear hof
      rintro e w5 ⟨rfl, hb5⟩
      have h5r := HB4.out.trans (hb5.mono HB4.out.size)
      have HRZ5 := Lib.hid (Rp.row_le h5r HRZ.out)
      have HB5 := Lib.hid (hb.trans (h5r.mono hb.size))
      have HM := Lib.hid (hmac_length k (m ++ 0 :: eight n))
      obtain ⟨R, hR⟩ : ∃ R, R = hmac k (m ++ 0 :: eight n) := ⟨_, rfl⟩
      rw [← hR] at HM ⊢
      have HRR := Lib.hid hR
      have HIM : Hid ((Tryd.prog.info? 25).map (·.size) = some (bysA R).size) := Lib.hid (by rw [bysA_size, HM.out]; exact info32)
      clear hR hb5 h5r HB4
      go_wp2_with (refine Rg.store_row rfl 25 _ _ rfl (w.heap.size + 1) rfl 25 (bysA zeros32) (bysA R) rfl HRZ5.out HIM.out (by rw [bysA_size, bysA_size, HM.out]; rfl) (bysA_one _) ?_)
      refine bodyPost_ret (v := .agg (bysA R)) (results_cell_row (P := Tryd.prog) rfl _ _ (w.heap.size + 1) 25 (bysA R) (0, 0) _ rfl (setRow_heap _ _ _ _ 25 _ HRZ5.out) Tryd.underlying25 rfl HIM.out) rfl ⟨by rw [HRR.out], ?_⟩
      exact Rg.below_setRow HB5.out (Nat.le_succ _) _
set_option maxRecDepth 100000 in
set_option maxHeartbeats 1000000 in
theorem refkey_any (k m : List UInt8) (n : Int) (w : World) (hR : Ref.Tabs w) (hk : k.length ≤ 1000000) (hm : m.length ≤ 900000) :
    Calls Tryd.prog 45 #[.string ⟨k.toArray⟩, .string ⟨m.toArray⟩, .int .i64 n] w fun e w' => e = .returned (.string ⟨(hmac k (m ++ 0 :: eight n)).toArray⟩) ∧ Below w.heap.size w w' := by
  have HR := Lib.hid hR; clear hR
  have hel := eight_length n
  go_enter Tryd.func45, Tryd.ntmps45
  go_wp2_with fail
  refine (eight_any n _).mono ?_
  rintro e w1 ⟨rfl, hb1⟩
  have HB1 := Lib.hid hb1
  have hle : (eight n).length ≤ 8 := by omega
  obtain ⟨E, hE⟩ : ∃ E, E = eight n := ⟨_, rfl⟩
  rw [← hE] at hle ⊢
  have HE := Lib.hid hE
  clear hel hb1 hE
  go_wp2_with fail
  refine (refof_any k (m ++ 0 :: E) _ (HR.out.below HB1.out) hk (by rw [List.length_append, List.length_cons]; omega)).mono ?_
  rintro e w2 ⟨rfl, hb2⟩
  have HB2 := Lib.hid (HB1.out.trans (hb2.mono HB1.out.size))
  clear hb2
  go_wp2_with fail
  go_ret
  exact ⟨by rw [← HE.out]; rfl, HB2.out⟩
end Ref
end Go.Proofs.YtmcjjionfmdioaaDoor

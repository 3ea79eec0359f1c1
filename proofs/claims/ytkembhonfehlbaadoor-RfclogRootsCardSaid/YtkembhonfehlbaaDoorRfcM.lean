/- The walk of custumallaw16.RfclogRoots. -/
import Derived.Test.YtkembhonfehlbaaDoorRfcG
namespace Go.Proofs.YtkembhonfehlbaaDoor
open Go.RowKit Bits Mem Sha
namespace Ref
set_option maxRecDepth 100000 in
set_option maxHeartbeats 1000000 in
theorem none16_any (w : World) : Calls Tryd.prog 24 #[] w fun e w' => e = .returned (.pointer none) ∧ w' = w := by
  go_enter Tryd.func24, Tryd.ntmps24
  go_wp2_with fail
  go_ret
  exact ⟨rfl, rfl⟩
set_option maxRecDepth 100000 in
set_option maxHeartbeats 8000000 in
theorem rfclogRoots_any (q : Option Addr) (c : Nat) (L : List (List UInt8)) (n : Int) (w : World) (hS : Sha.Tabs w) (hR : Ref.Tabs w) (hp : RawParts w (.slice q L.length c) L) (hn0 : -9223372036854775808 ≤ n) (hn1 : n ≤ 9223372036854775807) :
    Calls Tryd.prog 6 #[.slice q L.length c, .int .i64 n] w fun e w' => e = .returned (.bool true) ∧ Below w.heap.size w w' := by
  have HS := Lib.hid hS
  have HR := Lib.hid hR
  have HP := Lib.hid hp
  clear hS hR hp
  go_enter Tryd.func6, Tryd.ntmps6
  go_wp2_with fail
  refine (fill_any q c L w HS.out HP.out).mono ?_
  rintro e w1 ⟨lb, base, lq, lc, qw, cw, rfl, h1, h2, h3, hL, hO, hb1⟩
  obtain ⟨N, hN⟩ : ∃ N, N = few L 20 60 := ⟨_, rfl⟩
  rw [← hN] at hL hO ⊢
  have hN20 : N.length ≤ 20 := by rw [hN, few_length]; omega
  have HN60 : Hid (∀ x ∈ N, x.length ≤ 1000000) := Lib.hid (fun x hx => by
    rw [hN] at hx
    obtain ⟨y, _, rfl⟩ := List.mem_map.1 hx
    rw [List.length_take]
    omega)
  obtain ⟨D, hD⟩ : ∃ D, D = N.map leafS := ⟨_, rfl⟩
  rw [← hD] at hL
  have hDl : D.length = N.length := by rw [hD, List.length_map]
  have HDE := Lib.hid hD
  have HB1 := Lib.hid hb1
  have HL1 := Lib.hid hL
  have HO1 := Lib.hid hO
  have HBS := Lib.hid (And.intro h1 (And.intro h2 h3))
  clear hN hD hb1 hL hO h1 h2 h3
  go_wp2_with fail
  refine (logs_any w1 (HS.out.below HB1.out) (HR.out.below HB1.out)).mono ?_
  rintro e w2 ⟨rfl, hb2⟩
  have HB2 : Hid (Below w.heap.size w w2) := Lib.hid (HB1.out.trans (hb2.mono HB1.out.size))
  have HL2 := Lib.hid (HL1.out.below hb2)
  have HO2 := Lib.hid (HO1.out.below hb2)
  have HBS2 : Hid (w.heap.size ≤ lb ∧ lb < base ∧ base ≤ w2.heap.size) := Lib.hid ⟨HBS.out.1, HBS.out.2.1, Nat.le_trans HBS.out.2.2 hb2.size⟩
  clear hb2
  go_wp2_with fail
  refine (none16_any w2).mono ?_
  rintro e w2a ⟨rfl, rfl⟩
  go_wp2_with fail
  refine (logadd_nil _ w2a).mono ?_
  rintro e w2b ⟨rfl, rfl⟩
  go_wp2_with fail
  refine (none16_any w2b).mono ?_
  rintro e w2c ⟨rfl, rfl⟩
  go_wp2_with fail
  refine (loglen_nil w2c).mono ?_
  rintro e w2d ⟨rfl, rfl⟩
  go_wp2_with fail
  refine (loglen_any lb base lq lc D w2d HL2.out).mono ?_
  rintro e w2e ⟨rfl, rfl⟩
  rw [hDl]
  go_wp2_with fail
  go_loopw [7] (fun t wr => ∃ k : Nat, k ≤ N.length + 1 ∧ t = .int .i64 k ∧ Hid (Below w2e.heap.size w2e wr)) (fun t _ => N.length + 1 - (intOf t).toNat)
  case atStart => exact ⟨0, by omega, rfl, Lib.hid (Below.refl _ _)⟩
  case round =>
    obtain ⟨k, hk, rfl, HB⟩ := hrel
    have HBW : Hid (Below w.heap.size w wr) := Lib.hid (HB2.out.trans (HB.out.mono HB2.out.size))
    have HLW := Lib.hid (HL2.out.below HB.out)
    by_cases hle : k ≤ N.length
    ·
      as_aux_lemma =>
        have hkI : (k : Int) ≤ (N.length : Int) := by omega
        go_wp2_with fail
        refine (logroot_any lb base lq lc D k wr (HS.out.below HBW.out) HLW.out (by omega)).mono ?_
        rintro e w3 ⟨rfl, hb3⟩
        obtain ⟨R, hR⟩ : ∃ R, R = treeS ((N.take k).map leafS) := ⟨_, rfl⟩
        have hra : rootAns D k = .tuple #[.agg (bysA R), .int .i64 0] := by
          unfold rootAns
          rw [if_pos (by omega), hR, HDE.out, List.map_take]
          rfl
        have HRL : Hid (R.length = 32) := Lib.hid (by rw [hR]; exact treeS_length _ (fun x hx => by obtain ⟨y, _, rfl⟩ := List.mem_map.1 hx; exact leafS_length y))
        have HRE := Lib.hid hR
        have HIR : Hid ((Tryd.prog.info? 22).map (·.size) = some (bysA R).size) := Lib.hid (by rw [bysA_size, HRL.out]; exact info32)
        rw [hra]
        obtain ⟨w4, hw4⟩ : ∃ w4, w4 = w3.alloc (.cells (bysA R) 22) := ⟨_, rfl⟩
        have hb4 : Below wr.heap.size wr w4 := by rw [hw4]; exact hb3.alloc hb3.size _
        have HB4 : Hid (Below w2e.heap.size w2e w4) := Lib.hid (HB.out.trans (hb4.mono HB.out.size))
        have HR4 : Hid (w4.heap[w3.heap.size]? = some (.cells (bysA R) 22 (0, 0))) := Lib.hid (by rw [hw4]; exact Rg.heap_alloc_at _ _ _ rfl)
        have HW4 := Lib.hid hw4
        have hcap := Rd_cap (Rd.of_ow HO2.out)
        have hcw := hcap.1
        have hkc : (k : Int) ≤ (cw : Int) := by omega
        clear hra hR hw4 hb4 hb3 hcap
        go_wp2_with (refine Rg.store_row_new rfl 22 _ _ rfl w3.heap.size rfl rfl 22 _ (bysA R) rfl HIR.out (by rw [bysA_size, HRL.out]; rfl) (bysA_one _) ?_)
        rw [← HW4.out]
        obtain ⟨rb, hrb⟩ : ∃ rb, rb = w3.heap.size := ⟨_, rfl⟩
        rw [← hrb] at HR4 ⊢
        clear hrb
        refine Rc.region (w4.heap.size) 11 [Rc.F 8 (fun _ => .string ⟨R.toArray⟩) (fun _ _ _ => True)] [] (by kernel_rfl) (Nat.le_refl _) (by kernel_rfl) ?_; intro p; simp only [List.take, List.drop]
        iterate 4 (refine Rc.rK rfl rfl ?_; intro K hK; apply Exists.intro; refine ⟨?_, ?_⟩; (focus (intro x hx;  go_simp; (first | (fail) | ((try go_bits); (try go_simp); (try rfl))))); go_simp; refine hK _ ?_; clear hK K)
        refine Rc.r_str rfl rfl 23 9 _ rfl 5 Tryd.underlying9 Tryd.underlying23 Tryd.underlying5 _ _ (R) rfl (fun x hx => Rp3.row (Rp.row_le (Rc.undrew hx) HR4.out) HRL.out (by decide)) ?_; intro K hK; go_simp; refine hK _ ?_; clear hK K
        iterate 3 (refine Rc.rK rfl rfl ?_; intro K hK; apply Exists.intro; refine ⟨?_, ?_⟩; (focus (intro x hx;  go_simp; (first | (fail) | ((try go_bits); (try go_simp); (try rfl))))); go_simp; refine hK _ ?_; clear hK K)
        refine Rc.fK rfl rfl rfl rfl ?_ ?_
        · intro x Fs hx hle hg K hK
          have htl : (N.take k).length = k := by rw [List.length_take]; omega
          have hbx : Below w2e.heap.size w2e x := HB4.out.trans ((Rc.undrew hx).mono HB4.out.size)
          have hs := refsum_any k (N.take k) qw cw x htl (by omega) (fun y hy => HN60.out y (List.mem_of_mem_take hy)) (HR.out.below (HB2.out.trans (hbx.mono HB2.out.size))) (by
            have := Rd_take1 ((Rd.of_ow HO2.out).below hbx) (k := k) (by omega)
            rw [htl]
            unfold strs at this ⊢
            rwa [← List.map_take] at this)
          rw [htl, ← HRE.out] at hs
          go_wp2_with fail
          refine hs.mono ?_
          rintro e x' ⟨rfl, hb⟩
          go_wp2_with fail
          exact hK Rc.dflt x' hb (fun _ _ _ _ => trivial)
        intro K hK; go_simp; refine hK _ ?_; clear hK K
        iterate 2 (refine Rc.rK rfl rfl ?_; intro K hK; apply Exists.intro; refine ⟨?_, ?_⟩; (focus (intro x hx;  go_simp; (first | (fail) | ((try go_bits); (try go_simp); (try rfl))))); go_simp; refine hK _ ?_; clear hK K)
        refine Rc.done fun x Fs hx hle hg => ?_
        have HX : Hid (Below w2e.heap.size w2e x) := Lib.hid (HB4.out.trans ((Rc.undrew hx).mono HB4.out.size))
        clear hx hle hg
        go_wp2_with fail
        refine NoPanic.normal ?_
        go_wp2_with fail
        exact ⟨⟨k + 1, by omega, by go_num, HX⟩, by simp [intOf]; omega⟩
    · obtain rfl : k = N.length + 1 := by omega
      have hkI : ¬ ((N.length + 1 : Nat) : Int) ≤ (N.length : Int) := by omega
      go_wp2_with fail
      refine (logroot_any lb base lq lc D n wr (HS.out.below HBW.out) HLW.out (by omega)).mono ?_
      rintro e w3 ⟨rfl, hb3⟩
      by_cases hneg : n < 0
      · obtain ⟨R, hR⟩ : ∃ R, R = zeros32 := ⟨_, rfl⟩
        have hra : rootAns D n = .tuple #[.agg (bysA R), .int .i64 1] := by unfold rootAns; rw [if_neg (by omega), hR]
        have HRL : Hid (R.length = 32) := Lib.hid (by rw [hR]; rfl)
        clear hR
        rw [hra]
        have HIR : Hid ((Tryd.prog.info? 22).map (·.size) = some (bysA R).size) := Lib.hid (by rw [bysA_size, HRL.out]; exact info32)
        have HB3 : Hid (Below w2e.heap.size w2e w3) := Lib.hid (HB.out.trans (hb3.mono HB.out.size))
        clear hra hb3
        go_wp2_with (first | (refine Rg.store_row_new rfl 22 _ _ rfl w3.heap.size rfl rfl 22 _ (bysA R) rfl HIR.out (by rw [bysA_size, HRL.out]; rfl) (bysA_one _) ?_) | (refine conv_lit rfl 23 _ rfl 5 Tryd.underlying23 Tryd.underlying5 _ _ _ rfl _ _ rfl (by simp) ?_))
        obtain ⟨w6, hw6⟩ : ∃ w6, w6 = (w3.alloc (.cells (bysA R) 22)).alloc (.cells #[.int .u8 120] 5 (1, 2)) := ⟨_, rfl⟩
        have hb6 : Below w3.heap.size w3 w6 := by rw [hw6]; exact ((Below.refl _ _).alloc (Nat.le_refl _) _).alloc (by simp) _
        have hlx : Rd w6 1 (.slice (some ⟨w3.heap.size + 1, 0, none⟩) 1 1) 1 (bys [120]) := by
          have := Rd.of_ow (Ow.lit_marked (w3.alloc (.cells (bysA R) 22)) #[.int .u8 120] 5 1 1 0 (Nat.zero_le _) (by decide) rfl)
          rw [World.size_alloc] at this
          rw [hw6]
          exact this
        have HB6 : Hid (Below w2e.heap.size w2e w6) := Lib.hid (HB3.out.trans (hb6.mono HB3.out.size))
        have HL6 := Lib.hid (HL2.out.below HB6.out)
        have HBW6 : Hid (Below w.heap.size w w6) := Lib.hid (HB2.out.trans (HB6.out.mono HB2.out.size))
        have HLX := Lib.hid hlx
        have hbase : base ≤ w6.heap.size := Nat.le_trans HBS2.out.2.2 HB6.out.size
        have hT0 : (2 : Nat) < base ∧ (3 : Nat) < base := by
          have h1 := HS.out.lt1
          have h2 : (3 : Nat) < w.heap.size := by obtain ⟨_, _, h⟩ := HS.out.rounds; exact lt_of_heap h
          have := HBS2.out
          omega
        rw [← hw6]
        clear hw6 hb6 hlx
        refine (logadd_any lb base lq lc D (some ⟨w3.heap.size + 1, 0, none⟩) 1 [120] w6 (HS.out.below HBW6.out) HL6.out hbase hT0 (by omega) HLX.out (.inr fun e => ?_) (by decide)).mono ?_
        · have h1 := (HL2.out.2.2.lt (w3.heap.size + 1) e.symm).2
          have h2 := HB3.out.size
          omega
        rintro e w7 ⟨lq', lc', rfl, hL7, hK7, _⟩
        have HL7 := Lib.hid hL7
        have HB7 : Hid (Below w.heap.size w w7) := Lib.hid (HBW6.out.trans (hK7.below HBW6.out.size (fun j hj => by
          have h1 := HBS2.out
          rcases hj with h | h
          · omega
          · have := (HL6.out.2.2.lt j h).1; omega)))
        have hlen : (D ++ [leafS [120]]).length = N.length + 1 := by rw [List.length_append, hDl]; rfl
        clear hL7 hK7 hT0 hbase
        rw [hDl]
        go_wp2_with fail
        refine (loglen_any lb base lq' lc' _ w7 HL7.out).mono ?_
        rintro e w8 ⟨rfl, rfl⟩
        rw [hlen]
        go_wp2_with fail
        go_ret
        refine ⟨?_, HB7.out⟩
        first | rfl | exact congrArg (fun b => Ending.returned (Value.bool b)) (show (!decide (n ≤ (N.length : Int))) = true by simp; omega)
      · by_cases hbig : (N.length : Int) < n
        · obtain ⟨R, hR⟩ : ∃ R, R = zeros32 := ⟨_, rfl⟩
          have hra : rootAns D n = .tuple #[.agg (bysA R), .int .i64 1] := by unfold rootAns; rw [if_neg (by omega), hR]
          have HRL : Hid (R.length = 32) := Lib.hid (by rw [hR]; rfl)
          clear hR
          rw [hra]
          have HIR : Hid ((Tryd.prog.info? 22).map (·.size) = some (bysA R).size) := Lib.hid (by rw [bysA_size, HRL.out]; exact info32)
          have HB3 : Hid (Below w2e.heap.size w2e w3) := Lib.hid (HB.out.trans (hb3.mono HB.out.size))
          clear hra hb3
          go_wp2_with (first | (refine Rg.store_row_new rfl 22 _ _ rfl w3.heap.size rfl rfl 22 _ (bysA R) rfl HIR.out (by rw [bysA_size, HRL.out]; rfl) (bysA_one _) ?_) | (refine conv_lit rfl 23 _ rfl 5 Tryd.underlying23 Tryd.underlying5 _ _ _ rfl _ _ rfl (by simp) ?_))
          obtain ⟨w6, hw6⟩ : ∃ w6, w6 = (w3.alloc (.cells (bysA R) 22)).alloc (.cells #[.int .u8 120] 5 (1, 2)) := ⟨_, rfl⟩
          have hb6 : Below w3.heap.size w3 w6 := by rw [hw6]; exact ((Below.refl _ _).alloc (Nat.le_refl _) _).alloc (by simp) _
          have hlx : Rd w6 1 (.slice (some ⟨w3.heap.size + 1, 0, none⟩) 1 1) 1 (bys [120]) := by
            have := Rd.of_ow (Ow.lit_marked (w3.alloc (.cells (bysA R) 22)) #[.int .u8 120] 5 1 1 0 (Nat.zero_le _) (by decide) rfl)
            rw [World.size_alloc] at this
            rw [hw6]
            exact this
          have HB6 : Hid (Below w2e.heap.size w2e w6) := Lib.hid (HB3.out.trans (hb6.mono HB3.out.size))
          have HL6 := Lib.hid (HL2.out.below HB6.out)
          have HBW6 : Hid (Below w.heap.size w w6) := Lib.hid (HB2.out.trans (HB6.out.mono HB2.out.size))
          have HLX := Lib.hid hlx
          have hbase : base ≤ w6.heap.size := Nat.le_trans HBS2.out.2.2 HB6.out.size
          have hT0 : (2 : Nat) < base ∧ (3 : Nat) < base := by
            have h1 := HS.out.lt1
            have h2 : (3 : Nat) < w.heap.size := by obtain ⟨_, _, h⟩ := HS.out.rounds; exact lt_of_heap h
            have := HBS2.out
            omega
          rw [← hw6]
          clear hw6 hb6 hlx
          refine (logadd_any lb base lq lc D (some ⟨w3.heap.size + 1, 0, none⟩) 1 [120] w6 (HS.out.below HBW6.out) HL6.out hbase hT0 (by omega) HLX.out (.inr fun e => ?_) (by decide)).mono ?_
          · have h1 := (HL2.out.2.2.lt (w3.heap.size + 1) e.symm).2
            have h2 := HB3.out.size
            omega
          rintro e w7 ⟨lq', lc', rfl, hL7, hK7, _⟩
          have HL7 := Lib.hid hL7
          have HB7 : Hid (Below w.heap.size w w7) := Lib.hid (HBW6.out.trans (hK7.below HBW6.out.size (fun j hj => by
            have h1 := HBS2.out
            rcases hj with h | h
            · omega
            · have := (HL6.out.2.2.lt j h).1; omega)))
          have hlen : (D ++ [leafS [120]]).length = N.length + 1 := by rw [List.length_append, hDl]; rfl
          clear hL7 hK7 hT0 hbase
          rw [hDl]
          go_wp2_with fail
          refine (loglen_any lb base lq' lc' _ w7 HL7.out).mono ?_
          rintro e w8 ⟨rfl, rfl⟩
          rw [hlen]
          go_wp2_with fail
          go_ret
          refine ⟨?_, HB7.out⟩
          first | rfl | exact congrArg (fun b => Ending.returned (Value.bool b)) (show (!decide (n ≤ (N.length : Int))) = true by simp; omega)
        · obtain ⟨R, hR⟩ : ∃ R, R = treeS (D.take n.toNat) := ⟨_, rfl⟩
          have hra : rootAns D n = .tuple #[.agg (bysA R), .int .i64 0] := by unfold rootAns; rw [if_pos (by omega), hR]
          have HRL : Hid (R.length = 32) := Lib.hid (by rw [hR]; exact treeS_length _ (HLW.out.2.1.take _))
          clear hR
          rw [hra]
          have HIR : Hid ((Tryd.prog.info? 22).map (·.size) = some (bysA R).size) := Lib.hid (by rw [bysA_size, HRL.out]; exact info32)
          have HB3 : Hid (Below w2e.heap.size w2e w3) := Lib.hid (HB.out.trans (hb3.mono HB.out.size))
          clear hra hb3
          go_wp2_with (first | (refine Rg.store_row_new rfl 22 _ _ rfl w3.heap.size rfl rfl 22 _ (bysA R) rfl HIR.out (by rw [bysA_size, HRL.out]; rfl) (bysA_one _) ?_) | (refine conv_lit rfl 23 _ rfl 5 Tryd.underlying23 Tryd.underlying5 _ _ _ rfl _ _ rfl (by simp) ?_))
          obtain ⟨w6, hw6⟩ : ∃ w6, w6 = (w3.alloc (.cells (bysA R) 22)).alloc (.cells #[.int .u8 120] 5 (1, 2)) := ⟨_, rfl⟩
          have hb6 : Below w3.heap.size w3 w6 := by rw [hw6]; exact ((Below.refl _ _).alloc (Nat.le_refl _) _).alloc (by simp) _
          have hlx : Rd w6 1 (.slice (some ⟨w3.heap.size + 1, 0, none⟩) 1 1) 1 (bys [120]) := by
            have := Rd.of_ow (Ow.lit_marked (w3.alloc (.cells (bysA R) 22)) #[.int .u8 120] 5 1 1 0 (Nat.zero_le _) (by decide) rfl)
            rw [World.size_alloc] at this
            rw [hw6]
            exact this
          have HB6 : Hid (Below w2e.heap.size w2e w6) := Lib.hid (HB3.out.trans (hb6.mono HB3.out.size))
          have HL6 := Lib.hid (HL2.out.below HB6.out)
          have HBW6 : Hid (Below w.heap.size w w6) := Lib.hid (HB2.out.trans (HB6.out.mono HB2.out.size))
          have HLX := Lib.hid hlx
          have hbase : base ≤ w6.heap.size := Nat.le_trans HBS2.out.2.2 HB6.out.size
          have hT0 : (2 : Nat) < base ∧ (3 : Nat) < base := by
            have h1 := HS.out.lt1
            have h2 : (3 : Nat) < w.heap.size := by obtain ⟨_, _, h⟩ := HS.out.rounds; exact lt_of_heap h
            have := HBS2.out
            omega
          rw [← hw6]
          clear hw6 hb6 hlx
          refine (logadd_any lb base lq lc D (some ⟨w3.heap.size + 1, 0, none⟩) 1 [120] w6 (HS.out.below HBW6.out) HL6.out hbase hT0 (by omega) HLX.out (.inr fun e => ?_) (by decide)).mono ?_
          · have h1 := (HL2.out.2.2.lt (w3.heap.size + 1) e.symm).2
            have h2 := HB3.out.size
            omega
          rintro e w7 ⟨lq', lc', rfl, hL7, hK7, _⟩
          have HL7 := Lib.hid hL7
          have HB7 : Hid (Below w.heap.size w w7) := Lib.hid (HBW6.out.trans (hK7.below HBW6.out.size (fun j hj => by
            have h1 := HBS2.out
            rcases hj with h | h
            · omega
            · have := (HL6.out.2.2.lt j h).1; omega)))
          have hlen : (D ++ [leafS [120]]).length = N.length + 1 := by rw [List.length_append, hDl]; rfl
          clear hL7 hK7 hT0 hbase
          rw [hDl]
          go_wp2_with fail
          refine (loglen_any lb base lq' lc' _ w7 HL7.out).mono ?_
          rintro e w8 ⟨rfl, rfl⟩
          rw [hlen]
          go_wp2_with fail
          go_ret
          refine ⟨?_, HB7.out⟩
          first | rfl | exact congrArg (fun b => Ending.returned (Value.bool b)) (show (!decide (n ≤ (N.length : Int))) = true by simp; omega)
end Ref
end Go.Proofs.YtkembhonfehlbaaDoor

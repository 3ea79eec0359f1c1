/- The walk of the reference's Sum. -/
import Derived.Test.YtmkoiddfkanmiaaDoorRefP
import Derived.Test.YtmkoiddfkanmiaaDoorPerm
namespace Go.Proofs.YtmkoiddfkanmiaaDoor
open Go.RowKit Bits Mem Sha
namespace Ref
theorem outb_take_succ (H : List (BitVec 32)) (j : Nat) (h : j < H.length) : outb (H.take (j + 1)) = outb (H.take j) ++ four (rd H j) := by
  rw [List.take_succ_eq_append_getElem h, outb_append]
  congr 1
  simp [outb, rd, List.getD, h]
theorem Rd_lit4 (x : BitVec 32) (w1 : World) : Rd (w1.alloc (.cells #[.int .u8 ((by8 (x >>> 24)).toNat : Int), .int .u8 ((by8 (x >>> 16)).toNat : Int), .int .u8 ((by8 (x >>> 8)).toNat : Int), .int .u8 ((by8 x).toNat : Int)] 5)) 1 (.slice (some ⟨w1.heap.size, 0, none⟩) 4 4) 4 (bys (four x)) :=
  Rd_lit w1 #[.int .u8 ((by8 (x >>> 24)).toNat : Int), .int .u8 ((by8 (x >>> 16)).toNat : Int), .int .u8 ((by8 (x >>> 8)).toNat : Int), .int .u8 ((by8 x).toNat : Int)] 5 1 4 rfl (by decide)
@[go_sem] theorem shr24 (a : BitVec 32) : n32 a / (16777216 : Int) = n32 (a >>> 24) := u32_shr a 24
@[go_sem] theorem shr16 (a : BitVec 32) : n32 a / (65536 : Int) = n32 (a >>> 16) := u32_shr a 16
@[go_sem] theorem shr8 (a : BitVec 32) : n32 a / (256 : Int) = n32 (a >>> 8) := u32_shr a 8
set_option maxRecDepth 100000 in
set_option maxHeartbeats 40000000 in
theorem sum_any (s : ByteArray) (l : List UInt8) (hl : s.data.toList = l) (w : World) (hT : Tabs w) (hsz : l.length ≤ 70368744177664) :
    Calls Tryd.prog 40 #[.string s] w fun e w' => e = .returned (.string ⟨(sha l).toArray⟩) ∧ Below w.heap.size w w' := by
  have hss : s.size = l.length := by rw [← hl]; rfl
  have HSS := Lib.hid hss
  have HL := Lib.hid hl
  clear hss hl
  obtain ⟨i0, hi, hz0, hz1, hz2⟩ := info_parts info1
  have hlit : ∀ (b : UInt8) (w1 : World), Rd (w1.alloc (.cells #[.int .u8 (b.toNat : Int)] 5)) 1 (.slice (some ⟨w1.heap.size, 0, none⟩) 1 1) 1 (bys [b]) := fun b w1 => Rd_lit w1 #[.int .u8 (b.toNat : Int)] 5 1 1 rfl (by decide)
  have HLIT := Lib.hid hlit; clear hlit
  have HLIT4 := Lib.hid Rd_lit4
  have hz : (s.size : Int) = (l.length : Int) := by rw [HSS.out]
  have hsm : s.size ≤ maxLen := by rw [HSS.out]; unfold maxLen; omega
  have HSM := Lib.hid hsm
  clear hsm
  go_enter Tryd.func40, Tryd.ntmps40
  go_wp2_with (first | (refine conv_bytes rfl 9 24 _ rfl 5 Tryd.underlying9 Tryd.underlying24 Tryd.underlying5 s rfl w.heap.size (Nat.le_refl _) HSM.out ?_; intro v1 w1 how1 hb1; rw [HSS.out, HL.out] at how1) | (at_builtin; have ho := how1.alloc (.cells #[.int .u8 ((128 : UInt8).toNat : Int)] 5); go_must (refine app_ow rfl _ _ 24 24 rfl w.heap.size 5 i0 (.int .u8 0) 1 1 Tryd.underlying24 hi hz0 hz1 hz2 rfl _ _ _ rfl ho _ _ _ rfl (Rd.src Tryd.underlying24 (HLIT.out 128 _) (bys_one [128])) (by unfold maxLen; omega) (by omega) (by rw [World.size_alloc]; have := hb1.size; omega) ?_); go_must (intro v2 w2 how2 hg2); go_must (obtain ⟨q2, c2, rfl⟩ := Ow_form how2); go_must (have hb2 : Below w.heap.size w w2 := (hb1.alloc hb1.size _).grown hg2 (by rw [World.size_alloc]; have := hb1.size; omega) (fun k hk => (ho.lt k hk).1)); clear how1 ho hg2))
  rw [← bys_append] at how2
  clear hb1
  go_loopw [4] (fun v wr => ∃ j q c, j ≤ zc l.length ∧ v = .slice q (l.length + 1 + j) c ∧ Ow wr w.heap.size 5 1 (.slice q (l.length + 1 + j) c) (l.length + 1 + j) (bys (padz l j)) ∧ Below w.heap.size w wr) (fun v _ => l.length + 100 - sliceLen v)
  case atStart => exact ⟨0, q2, c2, Nat.zero_le _, rfl, how2, hb2⟩
  case round =>
    obtain ⟨j, q, c, hj, rfl, hown, hbel⟩ := hrel
    obtain ⟨N, hN⟩ : ∃ N, N = l.length + 1 + j := ⟨_, rfl⟩
    rw [← hN] at hown ⊢
    have hzl := zc_le l.length
    have hzs := zc_spec l.length
    have hzf := zc_first l.length j
    have hsr := hbel.size
    have hNb : N ≤ 70368744177764 := by omega
    by_cases hlt : j < zc l.length
    · have h56 : ((N : Int) % 64 == 56) = false := by rw [beq_eq_false_iff_ne]; omega
      have h56' : ((N : Int) % 64 != 56) = true := by rw [bne_iff_ne]; omega
      as_aux_lemma =>
        have HN := Lib.hid hN; clear hN hzs hzf
        go_wp2_with (at_builtin; have ho := hown.alloc (.cells #[.int .u8 ((0 : UInt8).toNat : Int)] 5); go_must (refine app_ow rfl _ _ 24 24 rfl w.heap.size 5 i0 (.int .u8 0) 1 1 Tryd.underlying24 hi hz0 hz1 hz2 rfl _ _ _ rfl ho _ _ _ rfl (Rd.src Tryd.underlying24 (HLIT.out 0 _) (bys_one [0])) (by unfold maxLen; omega) (by omega) (by rw [World.size_alloc]; omega) ?_); go_must (intro v3 w3 how3 hg3); go_must (obtain ⟨q3, c3, rfl⟩ := Ow_form how3); go_must (have hb3 : Below w.heap.size w w3 := (hbel.alloc hsr _).grown hg3 (by rw [World.size_alloc]; omega) (fun k hk => (ho.lt k hk).1)); clear hown ho hg3)
        have HO3 := Lib.hid how3; clear how3
        refine ⟨⟨j + 1, q3, c3, by omega, by rw [HN.out]; rfl, ?_, hb3⟩, ?_⟩
        · rw [padz_succ, bys_append, show l.length + 1 + (j + 1) = N + 1 from by have := HN.out; omega]; exact HO3.out
        · show l.length + 100 - (N + 1) < l.length + 100 - N
          have := HN.out
          omega
    · have hj' : j = zc l.length := by omega
      have h56 : ((N : Int) % 64 == 56) = true := by rw [beq_iff_eq]; omega
      have h56' : ((N : Int) % 64 != 56) = false := by rw [bne_eq_false_iff_eq]; omega
      have HN : Hid (N = l.length + 1 + zc l.length) := Lib.hid (by omega)
      have HPZ : Hid (padz l j = padz l (zc l.length)) := Lib.hid (by rw [hj'])
      rw [HPZ.out] at hown
      clear hN hzs hzf hj' hj hlt
      go_wp2
      have hown' : Ow wr w.heap.size 5 1 (.slice q (N + 0) c) (N + 0) (bys (padz l (zc l.length) ++ be (8 * l.length) 0)) := by simpa [be] using hown
      clear hown
      go_loopw [4, 5] (fun v i wr => ∃ (m : Nat) (q : Option Addr) (c : Nat), m ≤ 8 ∧ i = .int .i64 (56 - 8 * (m : Int)) ∧ v = .slice q (N + m) c ∧ Ow wr w.heap.size 5 1 (.slice q (N + m) c) (N + m) (bys (padz l (zc l.length) ++ be (8 * l.length) m)) ∧ Below w.heap.size w wr) (fun _ i _ => (intOf i + 8).toNat)
      case atStart => exact ⟨0, q, c, by omega, rfl, rfl, hown', hbel⟩
      case round =>
        obtain ⟨m, qm, cm, hm, rfl, rfl, hownm, hbelm⟩ := hrel
        have hsm2 := hbelm.size
        by_cases hlt : m < 8
        · have hge : (0 : Int) ≤ 56 - 8 * (m : Int) := by omega
          obtain ⟨bq, hbq⟩ : ∃ bq, bq = UInt8.ofNat (8 * l.length / 2 ^ (8 * (7 - m))) := ⟨_, rfl⟩
          have hb8 : (8 * (l.length : Int) / 2 ^ (56 - 8 * m) % 256) = (bq.toNat : Int) := by
            rw [hbq, UInt8.toNat_ofNat', show 8 * (7 - m) = 56 - 8 * m from by omega]; simp
          as_aux_lemma =>
            have HBQ := Lib.hid hbq; clear hbq
            go_wp2_with (at_builtin; have ho := hownm.alloc (.cells #[.int .u8 (bq.toNat : Int)] 5); go_must (refine app_ow rfl _ _ 24 24 rfl w.heap.size 5 i0 (.int .u8 0) 1 1 Tryd.underlying24 hi hz0 hz1 hz2 rfl _ _ _ rfl ho _ _ _ rfl (Rd.src Tryd.underlying24 (HLIT.out bq _) (bys_one [bq])) (by unfold maxLen; omega) (by omega) (by rw [World.size_alloc]; omega) ?_); go_must (intro v3 w3 how3 hg3); go_must (obtain ⟨q3, c3, rfl⟩ := Ow_form how3); go_must (have hb3 : Below w.heap.size w w3 := (hbelm.alloc hsm2 _).grown hg3 (by rw [World.size_alloc]; omega) (fun k hk => (ho.lt k hk).1)); clear hownm ho hg3)
            have HO3 := Lib.hid how3; clear how3
            refine ⟨⟨m + 1, q3, c3, by omega, by congr 1; omega, by rw [Nat.add_assoc], ?_, hb3⟩, ?_⟩
            · rw [be_succ, ← HBQ.out, ← List.append_assoc, bys_append, ← Nat.add_assoc]; exact HO3.out
            · simp [intOf]; omega
        · obtain rfl : m = 8 := by omega
          have HP : Hid (padz l (zc l.length) ++ be (8 * l.length) 8 = pad l.length l) := Lib.hid rfl
          rw [HP.out] at hownm
          have hPL := pad_length l.length l
          have hPM := pad_mod l.length l
          have HNP : Hid (N + 8 = (pad l.length l).length) := Lib.hid (by have := HN.out; omega)
          rw [HNP.out] at hownm ⊢
          obtain ⟨P, hP⟩ : ∃ P, P = pad l.length l := ⟨_, rfl⟩
          rw [← hP] at hownm hPL hPM ⊢
          have HPP := Lib.hid hP; clear hP
          have HPM := Lib.hid hPM
          have hPb : P.length ≤ 70368744177800 := by have := zc_le l.length; omega
          clear hPL hPM hNb hlt
          rw [show (56 - 8 * ((8 : Nat) : Int)) = -8 from rfl]
          have hTr : Tabs wr := hT.below hbelm
          obtain ⟨tH, fH, hrowH⟩ := hTr.h
          have HROWH := Lib.hid hrowH
          have HTR := Lib.hid hTr
          clear hrowH hTr
          go_wp2_with (first | (refine wpList_load_row rfl 128 _ rfl 0 rfl tH (cI HH) fH _ HROWH.out Tryd.underlying128 rfl infoI8 ?_) | (refine Rg.store_row_new rfl 128 _ _ rfl wr.heap.size rfl rfl 128 _ (cI HH) rfl infoI8 rfl (cI_one _) ?_))
          obtain ⟨wv, hwv⟩ : ∃ wv, wv = wr.alloc (.cells (cI HH) 128) := ⟨_, rfl⟩
          rw [← hwv]
          have hbv : Below w.heap.size w wv := by rw [hwv]; exact hbelm.alloc hsm2 _
          have hrv : Rd wv 1 (.slice qm P.length cm) P.length (bys P) := by rw [hwv]; exact (Rd.of_ow hownm).kept (World.grownBy_alloc _ _ none) (by cases qm <;> simp [Value.ownBlock])
          have hnv : (Value.slice qm P.length cm).ownBlock ≠ some wr.heap.size := fun e => by have := (hownm.lt _ e).2; omega
          have hrowv : wv.heap[wr.heap.size]? = some (.cells (cI HH) 128 (0, 0)) := by rw [hwv]; exact Rg.heap_alloc_at _ _ _ rfl
          obtain ⟨G, hG⟩ : ∃ G, G = wr.heap.size := ⟨_, rfl⟩
          rw [← hG] at hnv hrowv hsm2 ⊢
          clear hwv hG hownm hbelm HTR HROWH
          go_loopw [7] (fun i wr => ∃ k : Nat, 64 * k ≤ P.length ∧ i = .int .i64 (64 * (k : Int)) ∧ Rd wr 1 (.slice qm P.length cm) P.length (bys P) ∧ wr.heap[G]? = some (.cells (cI (pressN k HH P)) 128 (0, 0)) ∧ Below w.heap.size w wr) (fun i _ => P.length - (intOf i).toNat)
          case atStart => exact ⟨0, by omega, rfl, hrv, hrowv, hbv⟩
          case round =>
            obtain ⟨k, hk, rfl, hrk, hrowk, hbk⟩ := hrel
            have HROWK := Lib.hid hrowk; clear hrowk
            have hsk := hbk.size
            have hPM := HPM.out
            by_cases hlt : 64 * k < P.length
            ·
              obtain ⟨b, off, rfl, hb, hnc, hcm, hcell⟩ := Rd_lt hrk (by omega)
              have hbn : b ≠ G := by simpa [Value.ownBlock] using hnv
              have HCELL := Lib.hid hcell
              have hr64 : 64 * k + 64 ≤ P.length := by omega
              have q0 : 64 * (k : Int) < (P.length : Int) := by omega
              clear hcell hPM
              obtain ⟨D, hD⟩ : ∃ D, D = P.drop (64 * k) := ⟨_, rfl⟩
              have HD := Lib.hid hD; clear hD
              have HBT : Hid (∀ j, bt P (64 * k + j) = bt D j) := Lib.hid (fun j => by rw [HD.out]; unfold bt; simp [List.getD, List.getElem?_drop])
              have HCB : Hid (∀ j, j < 64 → wr.cell? ⟨b, off + (64 * k + j), none⟩ = some (.int .u8 ((bt D j).toNat : Int))) := Lib.hid (fun j hj => by
                refine HCELL.out (64 * k + j) _ ?_
                rw [bys_get P _ (by omega), ← HBT.out j]; rfl)
              go_wp2
              go_loopw [9] (fun i w' => ∃ j : Nat, j ≤ 64 ∧ i = .int .i64 j ∧ ∃ n, w' = (wr.alloc (.cells (cI (refw D j)) 129)).drewN n) (fun i _ => 64 - (intOf i).toNat)
              case atStart => exact ⟨0, by omega, rfl, 0, rfl⟩
              case round =>
                obtain ⟨j, hj, rfl, n, rfl⟩ := hrel
                have hAL := refw_length D j
                by_cases h64 : j < 64
                · by_cases h16 : j < 16
                  ·
                    as_aux_lemma =>
                      have hc0 := HCB.out (4 * j) (by omega)
                      have hc1 := HCB.out (4 * j + 1) (by omega)
                      have hc2 := HCB.out (4 * j + 2) (by omega)
                      have hc3 := HCB.out (4 * j + 3) (by omega)
                      have hA := cI_get (refw D j) j (by omega)
                      have HR : Hid (refw D (j + 1) = (refw D j).set j (w4 (bt D (4 * j)) (bt D (4 * j + 1)) (bt D (4 * j + 2)) (bt D (4 * j + 3)))) := Lib.hid (by rw [refw, if_pos h16])
                      generalize bt D (4 * j) = b0 at *
                      generalize bt D (4 * j + 1) = b1 at *
                      generalize bt D (4 * j + 2) = b2 at *
                      generalize bt D (4 * j + 3) = b3 at *
                      have hw4 := word4 b0 b1 b2 b3
                      have l0 := b0.toNat_lt
                      have l1 := b1.toNat_lt
                      have l2 := b2.toNat_lt
                      have l3 := b3.toNat_lt
                      have r0 : (0 : Int) ≤ 64 * (k : Int) + 4 * (j : Int) := by omega
                      have r1 : (0 : Int) ≤ 64 * (k : Int) + 4 * (j : Int) + 1 := by omega
                      have r2 : (0 : Int) ≤ 64 * (k : Int) + 4 * (j : Int) + 2 := by omega
                      have r3 : (0 : Int) ≤ 64 * (k : Int) + 4 * (j : Int) + 3 := by omega
                      have s0 : 64 * (k : Int) + 4 * (j : Int) < (P.length : Int) := by omega
                      have s1 : 64 * (k : Int) + 4 * (j : Int) + 1 < (P.length : Int) := by omega
                      have s2 : 64 * (k : Int) + 4 * (j : Int) + 2 < (P.length : Int) := by omega
                      have s3 : 64 * (k : Int) + 4 * (j : Int) + 3 < (P.length : Int) := by omega
                      have u0 : (64 * (k : Int) + 4 * (j : Int)).toNat = 64 * k + 4 * j := by omega
                      have u1 : (64 * (k : Int) + 4 * (j : Int) + 1).toNat = 64 * k + (4 * j + 1) := by omega
                      have u2 : (64 * (k : Int) + 4 * (j : Int) + 2).toNat = 64 * k + (4 * j + 2) := by omega
                      have u3 : (64 * (k : Int) + 4 * (j : Int) + 3).toNat = 64 * k + (4 * j + 3) := by omega
                      have ji : (j : Int) < 64 := by omega
                      go_wp2
                      refine Rg.tail (fun w' => ∃ n, w' = (wr.alloc (.cells (cI (refw D j)) 129)).drewN n) 31 (by kernel_rfl) (by kernel_rfl) ⟨n + 1, rfl⟩ ?_; simp only [List.take_succ_cons, List.take_zero, List.drop_succ_cons, List.drop_zero]
                      repeat (refine Rg.stepK rfl ?_; intro K hK; apply Exists.intro; refine ⟨?_, ?_⟩; (focus (intro w' hw'; obtain ⟨nq, rfl⟩ := hw'; go_simp; (first | (fail) | ((try go_bits); (try go_simp); (try rfl))))); go_simp; refine hK _ ?_; clear hK K)
                      refine wpQuiet_nil ?_; intro w' hw'; obtain ⟨nq, rfl⟩ := hw'
                      go_wp2
                      refine ⟨⟨j + 1, by omega, by go_num, nq, ?_⟩, ?_⟩
                      · rw [HR.out, ← cI_set]
                      · simp [intOf]; omega
                  ·
                    as_aux_lemma =>
                      obtain ⟨i, rfl⟩ : ∃ i, j = 16 + i := ⟨j - 16, by omega⟩
                      have HR : Hid (refw D (16 + i + 1) = (refw D (16 + i)).set (16 + i) (next1 (refw D (16 + i)) i)) := Lib.hid (by rw [refw, if_neg h16, Nat.add_sub_cancel_left])
                      obtain ⟨A, hA⟩ : ∃ A, A = refw D (16 + i) := ⟨_, rfl⟩
                      rw [← hA] at hAL HR ⊢
                      clear hA
                      have a0 := cI_get A i (by omega)
                      have a1 := cI_get A (i + 1) (by omega)
                      have a9 := cI_get A (i + 9) (by omega)
                      have a14 := cI_get A (i + 14) (by omega)
                      have a16 := cI_get A (16 + i) (by omega)
                      have hi48 : i < 48 := by omega
                      have hi48i : 16 + (i : Int) < 64 := by omega
                      have g16 : ¬ (16 + (i : Int) < 16) := by omega
                      have d16 : decide (16 + (i : Int) < 16) = false := by simp; omega
                      have e1 : IntKind.i64.wrap (16 + (i : Int) - 16) = (i : Int) := by rw [IntWalk.i64_in _ (by omega)]; omega
                      have e2 : IntKind.i64.wrap (16 + (i : Int) - 15) = (i : Int) + 1 := by rw [IntWalk.i64_in _ (by omega)]; omega
                      have e3 : IntKind.i64.wrap (16 + (i : Int) - 7) = (i : Int) + 9 := by rw [IntWalk.i64_in _ (by omega)]; omega
                      have e4 : IntKind.i64.wrap (16 + (i : Int) - 2) = (i : Int) + 14 := by rw [IntWalk.i64_in _ (by omega)]; omega
                      have f1 : (i : Int) < 64 ∧ (i : Int) + 1 < 64 ∧ (i : Int) + 9 < 64 ∧ (i : Int) + 14 < 64 := by omega
                      have f2 : (0 : Int) ≤ (i : Int) + 1 ∧ (0 : Int) ≤ (i : Int) + 9 ∧ (0 : Int) ≤ (i : Int) + 14 := by omega
                      have f3 : ((i : Int) + 1).toNat = i + 1 ∧ ((i : Int) + 9).toNat = i + 9 ∧ ((i : Int) + 14).toNat = i + 14 := by omega
                      have f5 : (0 : Int) ≤ 16 + (i : Int) := by omega
                      have f6 : (16 + (i : Int)).toNat = 16 + i := by omega
                      rw [show ((16 + i : Nat) : Int) = 16 + (i : Int) from by omega]
                      have bd0 := n32_bd (rd A i)
                      have bd1 := n32_bd (sml (rd A (i + 1)) 7 18 3)
                      have bd2 := n32_bd (rd A (i + 9))
                      have bd3 := n32_bd (sml (rd A (i + 14)) 17 19 10)
                      have hs4 := sum4 (rd A i) (sml (rd A (i + 1)) 7 18 3) (rd A (i + 9)) (sml (rd A (i + 14)) 17 19 10)
                      unfold sml at bd1 bd3 hs4
                      go_wp2
                      refine Rg.whole (fun w' => ∃ n, w' = (wr.alloc (.cells (cI A) 129)).drewN n) (by kernel_rfl) (by kernel_rfl) ⟨n + 1, rfl⟩ ?_
                      repeat (refine Rg.stepK rfl ?_; intro K hK; apply Exists.intro; refine ⟨?_, ?_⟩; (focus (intro w' hw'; obtain ⟨nq, rfl⟩ := hw'; go_simp; (first | (fail) | ((try go_bits); (try go_simp); (try rfl))))); go_simp; refine hK _ ?_; clear hK K)
                      refine wpQuiet_nil ?_; intro w' hw'; obtain ⟨nq, rfl⟩ := hw'
                      go_wp2
                      refine Rg.tail (fun w' => ∃ n, w' = (wr.alloc (.cells (cI A) 129)).drewN n) 30 (by kernel_rfl) (by kernel_rfl) ⟨nq + 1, rfl⟩ ?_; simp only [List.take_succ_cons, List.take_zero, List.drop_succ_cons, List.drop_zero]
                      repeat (refine Rg.stepK rfl ?_; intro K hK; apply Exists.intro; refine ⟨?_, ?_⟩; (focus (intro w' hw'; obtain ⟨nq, rfl⟩ := hw'; go_simp; (first | (go_at_call 53; exact Calls.quiet_of (turn_any _ _ _ (by omega) (by omega))) | ((try go_bits); (try go_simp); (try rfl))))); go_simp; refine hK _ ?_; clear hK K)
                      refine wpQuiet_nil ?_; intro w' hw'; obtain ⟨nq, rfl⟩ := hw'
                      go_wp2
                      refine ⟨⟨16 + i + 1, by omega, by go_num, nq, by rw [HR.out, ← cI_set]; rfl⟩, ?_⟩
                      · simp [intOf]; omega
                · obtain rfl : j = 64 := by omega
                  rw [show ((64 : Nat) : Int) = 64 from rfl]
                  have HPR : Hid (addw (pressN k HH P) (rnds (pressN k HH P) (refw D 64) 64) 8 = pressN (k + 1) HH P) := Lib.hid (by rw [HD.out]; exact (pressN_refw k HH P hr64).symm)
                  have hHL : (pressN k HH P).length = 8 := by rw [pressN_length]; rfl
                  obtain ⟨A, hA⟩ : ∃ A, A = refw D 64 := ⟨_, rfl⟩
                  rw [← hA] at hAL HPR ⊢
                  have HROW := HROWK.out
                  obtain ⟨V0, hV0⟩ : ∃ V0, V0 = pressN k HH P := ⟨_, rfl⟩
                  rw [← hV0] at hHL HPR HROW
                  clear hA hV0 HCB HBT HD HROWK
                  have hTr : Tabs wr := hT.below hbk
                  obtain ⟨tK, fK, hKrow⟩ := hTr.k
                  have HK : Hid (∀ k, k < 64 → wr.cell? ⟨(1 : Nat), k, none⟩ = some (.int .i64 (n32 (rd KK k)))) := Lib.hid (fun k hk => by
                    rw [cell_of_row wr _ k _ _ _ hKrow]; exact cI_get KK k (by rw [KK_length]; exact hk))
                  have hltK : (1 : Nat) < wr.heap.size := lt_of_heap hKrow
                  have hltG : G < wr.heap.size := lt_of_heap HROW
                  have HG := Lib.hid HROW
                  have HI8 : Hid ((Tryd.prog.info? 128).map (·.size) = some (cI V0).size) := Lib.hid (by rw [cI_size, hHL]; exact infoI8)
                  clear hKrow hTr HROW
                  have HZ8 : Hid ((#[Value.int .i64 0, .int .i64 0, .int .i64 0, .int .i64 0, .int .i64 0, .int .i64 0, .int .i64 0, .int .i64 0] : Array Value).size = (cI V0).size) := Lib.hid (by rw [cI_size, hHL]; rfl)
                  go_wp2_with (first | (refine wpList_load_row rfl 128 _ rfl G rfl 128 (cI V0) (0, 0) _ (by exact (Rg.heap_alloc_past _ _ _ hltG).trans HG.out) Tryd.underlying128 rfl HI8.out ?_) | (refine Rg.store_row rfl 128 _ _ rfl (wr.heap.size + 1) rfl 128 _ (cI V0) rfl (Rg.heap_alloc_at _ _ _ (by simp)) HI8.out HZ8.out (cI_one _) ?_))
                  rw [Rg.setRow_drewN, Rg.setRow_alloc_at _ _ _ _ _ (by simp)]
                  have HHL := Lib.hid hHL; clear hHL
                  have HAL := Lib.hid hAL
                  go_loopw [14] (fun i w' => ∃ j : Nat, j ≤ 64 ∧ i = .int .i64 j ∧ ∃ n, w' = ((wr.alloc (.cells (cI A) 129)).alloc (.cells (cI (rnds V0 A j)) 128)).drewN n) (fun i _ => 64 - (intOf i).toNat)
                  case atStart => exact ⟨0, by omega, rfl, n, rfl⟩
                  case round =>
                    obtain ⟨j, hj, rfl, n, rfl⟩ := hrel
                    have hVL : (rnds V0 A j).length = 8 := rnds_length V0 A HHL.out j
                    by_cases hlt5 : j < 64
                    ·
                      obtain ⟨V, hV⟩ : ∃ V, V = rnds V0 A j := ⟨_, rfl⟩
                      rw [← hV]
                      rw [← hV] at hVL
                      have HV := Lib.hid hV; clear hV
                      have v0 := cI_get V 0 (by omega)
                      have v1 := cI_get V 1 (by omega)
                      have v2 := cI_get V 2 (by omega)
                      have v3 := cI_get V 3 (by omega)
                      have v4 := cI_get V 4 (by omega)
                      have v5 := cI_get V 5 (by omega)
                      have v6 := cI_get V 6 (by omega)
                      have v7 := cI_get V 7 (by omega)
                      have sk := cI_get A j (by omega)
                      have kk : ((wr.alloc (.cells (cI A) 129)).alloc (.cells (cI V) 128)).cell? ⟨(1 : Nat), j, none⟩ = some (.int .i64 (n32 (rd KK j))) := by
                        rw [World.cell?_alloc_past _ _ _ (by simp; omega), World.cell?_alloc_past _ _ _ hltK]; exact HK.out j hlt5
                      have hz0' : 0 < wr.heap.size := by omega
                      have q1 : (j : Int) < 64 := by omega
                      have HVL := Lib.hid hVL; clear hVL
                      have bd1 := n32_bd (rd V 7)
                      have bd2 := n32_bd (bg (rd V 4) 6 11 25)
                      have bd3 := n32_bd ((rd V 4 &&& rd V 5) ^^^ (~~~rd V 4 &&& rd V 6))
                      have bd4 := n32_bd (rd KK j)
                      have bd5 := n32_bd (rd A j)
                      have bd6 := n32_bd (bg (rd V 0) 2 13 22)
                      have bd7 := n32_bd ((rd V 0 &&& rd V 1) ^^^ (rd V 0 &&& rd V 2) ^^^ (rd V 1 &&& rd V 2))
                      have bd8 := n32_bd (rd V 3)
                      have hs7 := sum7 (rd V 7) (bg (rd V 4) 6 11 25) ((rd V 4 &&& rd V 5) ^^^ (~~~rd V 4 &&& rd V 6)) (rd KK j) (rd A j) (bg (rd V 0) 2 13 22) ((rd V 0 &&& rd V 1) ^^^ (rd V 0 &&& rd V 2) ^^^ (rd V 1 &&& rd V 2))
                      have hs6 := sum6 (rd V 3) (rd V 7) (bg (rd V 4) 6 11 25) ((rd V 4 &&& rd V 5) ^^^ (~~~rd V 4 &&& rd V 6)) (rd KK j) (rd A j)
                      unfold bg at bd2 bd6 hs7 hs6
                      go_wp2
                      refine Rg.whole (fun w' => ∃ n, w' = ((wr.alloc (.cells (cI A) 129)).alloc (.cells (cI V) 128)).drewN n) (by kernel_rfl) (by kernel_rfl) ⟨n + 1, rfl⟩ ?_
                      repeat (refine Rg.stepK rfl ?_; intro K hK; apply Exists.intro; refine ⟨?_, ?_⟩; (focus (intro w' hw'; obtain ⟨nq, rfl⟩ := hw'; go_simp; (first | (go_at_call 53; exact Calls.quiet_of (turn_any _ _ _ (by omega) (by omega))) | ((try go_bits); (try go_simp); (try rfl))))); go_simp; refine hK _ ?_; clear hK K)
                      refine wpQuiet_nil ?_; intro w' hw'; obtain ⟨nq, rfl⟩ := hw'
                      go_wp2
                      refine Rg.whole (fun w' => ∃ n, w' = ((wr.alloc (.cells (cI A) 129)).alloc (.cells (cI V) 128)).drewN n) (by kernel_rfl) (by kernel_rfl) ⟨nq + 1, rfl⟩ ?_
                      repeat (refine Rg.stepK rfl ?_; intro K hK; apply Exists.intro; refine ⟨?_, ?_⟩; (focus (intro w' hw'; obtain ⟨nq, rfl⟩ := hw'; go_simp; (first | (go_at_call 53; exact Calls.quiet_of (turn_any _ _ _ (by omega) (by omega))) | ((try go_bits); (try go_simp); (try rfl))))); go_simp; refine hK _ ?_; clear hK K)
                      refine wpQuiet_nil ?_; intro w' hw'; obtain ⟨nq, rfl⟩ := hw'
                      have HS8 : Hid ((cI V).size = (cI (rnd V A j)).size) := Lib.hid (by rw [cI_size, HVL.out]; rfl)
                      go_wp2_with (refine Rg.store_row rfl 128 _ _ rfl (wr.heap.size + 1) rfl 128 (cI V) (cI (rnd V A j)) rfl (Rg.heap_alloc_at _ _ _ (by simp)) infoI8 HS8.out (cI_one _) ?_)
                      refine ⟨⟨j + 1, by omega, by go_num, nq, by rw [show rnds V0 A (j + 1) = rnd V A j from by rw [HV.out]; rfl, Rg.setRow_drewN, Rg.setRow_alloc_at _ _ _ _ _ (by simp)]⟩, ?_⟩
                      simp [intOf]; omega
                    · obtain rfl : j = 64 := by omega
                      rw [show ((64 : Nat) : Int) = 64 from rfl]
                      obtain ⟨V, hV⟩ : ∃ V, V = rnds V0 A 64 := ⟨_, rfl⟩
                      rw [← hV] at hVL HPR ⊢
                      clear hV HK
                      go_wp2
                      have E1 : Hid (wr = wr.setRow G (cI (addw V0 V 0))) := Lib.hid (Rg.setRow_self HG.out).symm
                      go_loopw [17] (fun i w' => ∃ j : Nat, j ≤ 8 ∧ i = .int .i64 j ∧ ∃ n, w' = (((wr.setRow G (cI (addw V0 V j))).alloc (.cells (cI A) 129)).alloc (.cells (cI V) 128)).drewN n) (fun i _ => 8 - (intOf i).toNat)
                      case atStart => exact ⟨0, by omega, rfl, n, by rw [← E1.out]⟩
                      case round =>
                        obtain ⟨j, hj, rfl, n, rfl⟩ := hrel
                        have hAL6 : (addw V0 V j).length = 8 := by rw [addw_length]; exact HHL.out
                        by_cases hlt6 : j < 8
                        ·
                          as_aux_lemma =>
                            have a0 := cI_get (addw V0 V j) j (by omega)
                            have v0 := cI_get V j (by omega)
                            have c0 : (wr.setRow G (cI (addw V0 V j))).cell? ⟨G, j, none⟩ = some (.int .i64 (n32 (rd (addw V0 V j) j))) := by rw [cell_setRow_same _ _ _ _ _ _ _ HG.out, a0]
                            have f0 : (wr.setRow G (cI (addw V0 V j))).frozen? ⟨G, j, none⟩ = false := frozen_of_row _ _ _ _ _ (setRow_heap _ _ _ _ _ _ HG.out)
                            have q1 : (j : Int) < 8 := by omega
                            have hs2 := sum2 (rd (addw V0 V j) j) (rd V j)
                            have bd1 := n32_bd (rd (addw V0 V j) j)
                            have bd2 := n32_bd (rd V j)
                            go_wp2
                            refine Rg.tail (fun w' => ∃ n, w' = (((wr.setRow G (cI (addw V0 V j))).alloc (.cells (cI A) 129)).alloc (.cells (cI V) 128)).drewN n) 9 (by kernel_rfl) (by kernel_rfl) ⟨n + 1, rfl⟩ ?_; simp only [List.take_succ_cons, List.take_zero, List.drop_succ_cons, List.drop_zero]
                            repeat (refine Rg.stepK rfl ?_; intro K hK; apply Exists.intro; refine ⟨?_, ?_⟩; (focus (intro w' hw'; obtain ⟨nq, rfl⟩ := hw'; go_simp; (first | (fail) | ((try go_bits); (try go_simp); (try rfl))))); go_simp; refine hK _ ?_; clear hK K)
                            refine wpQuiet_nil ?_; intro w' hw'; obtain ⟨nq, rfl⟩ := hw'
                            go_wp2
                            refine ⟨⟨j + 1, by omega, by go_num, nq, by rw [Rg.setCell_setRow HG.out, cI_set]; rfl⟩, ?_⟩
                            simp [intOf]; omega
                        · obtain rfl : j = 8 := by omega
                          rw [show ((8 : Nat) : Int) = 8 from rfl]
                          rw [HPR.out]
                          go_wp2
                          have hrk' := Rd_setRow G (cI (pressN (k + 1) HH P)) hrk hbn
                          have hz1' : (wr.setRow G (cI (pressN (k + 1) HH P))).heap.size = wr.heap.size := by simp
                          refine ⟨⟨k + 1, by omega, by go_num, ?_, ?_, ?_⟩, ?_⟩
                          · exact Rd.drewN (Rd.kept (Rd.kept hrk' (World.grownBy_alloc _ _ none) (.inr (by simp [Value.ownBlock]))) (World.grownBy_alloc _ _ none) (.inr (by simp [Value.ownBlock]))) _
                          · exact (Rg.heap_alloc_past _ _ _ (by rw [World.size_alloc, hz1']; omega)).trans ((Rg.heap_alloc_past _ _ _ (by rw [hz1']; exact hltG)).trans (setRow_heap _ _ _ _ _ _ HG.out))
                          · exact Rg.below_drewN (((Rg.below_setRow hbk hsm2 _).alloc (by rw [hz1']; exact hsk) _).alloc (by rw [World.size_alloc, hz1']; omega) _) _
                          · simp [intOf]; omega
            ·
              as_aux_lemma =>
                have hke : 64 * (k : Int) = (P.length : Int) := by omega
                rw [hke]
                have HSHA : Hid (outb (pressN k HH P) = sha l) := Lib.hid (by rw [sha_whole, ← HPP.out, show P.length / 64 = k from by omega])
                have hHL : (pressN k HH P).length = 8 := by rw [pressN_length]; rfl
                obtain ⟨H, hH⟩ : ∃ H, H = pressN k HH P := ⟨_, rfl⟩
                rw [← hH] at HROWK hHL HSHA
                clear hH
                go_wp2
                obtain ⟨wb, rfl⟩ : ∃ wb, wb = wr := ⟨_, rfl⟩
                have HG := HROWK.out
                have hltG : G < wb.heap.size := lt_of_heap HG
                go_loopw [18, 19] (fun v i w' => ∃ (j : Nat) (q : Option Addr) (c : Nat), j ≤ 8 ∧ i = .int .i64 j ∧ v = .slice q (4 * j) c ∧ Ow w' wb.heap.size 5 1 (.slice q (4 * j) c) (4 * j) (bys (outb (H.take j))) ∧ Below wb.heap.size wb w') (fun _ i _ => 8 - (intOf i).toNat)
                case atStart => exact ⟨0, _, 0, by omega, rfl, rfl, Ow.lit wb #[] 5 1 0 wb.heap.size (Nat.le_refl _) (by decide) rfl, (Below.refl _ _).alloc (Nat.le_refl _) _⟩
                case round =>
                  obtain ⟨j, qo, co, hj, rfl, rfl, hown, hbo⟩ := hrel
                  have hso := hbo.size
                  have HG' := Rg.below_row hbo hltG HG
                  by_cases hlt7 : j < 8
                  · have g0 : wr.cell? ⟨G, j, none⟩ = some (.int .i64 (n32 (rd H j))) := by rw [cell_of_row _ G _ _ _ _ HG']; exact cI_get H j (by omega)
                    have q1 : (j : Int) < 8 := by omega
                    have HO := Lib.hid (outb_take_succ H j (by omega))
                    have HG2 := Lib.hid HG'
                    clear HG'
                    go_wp2
                    refine Rp.region 21 [(0, true), (1, true), (2, true), (3, true), (4, true), (5, true), (6, true), (7, true), (8, true), (9, true), (10, true), (11, true), (12, true), (13, true), (14, true), (15, true), (16, true), (17, true), (18, true), (19, true), (20, false)] (by kernel_rfl) (by kernel_rfl) ?_; simp only [Rp.pick, Rp.nth, List.drop_succ_cons, List.drop_zero]
                    repeat (refine Rp.stepK rfl ?_; intro K hK; apply Exists.intro; refine ⟨?_, ?_⟩; (focus (intro x hx; have g0x := Rp.cell_le hx g0; go_simp; (first | (fail) | ((try go_bits); (try go_simp); (try rfl))))); go_simp; refine hK _ ?_; clear hK K)
                    refine Rp.stepF fun K hK => ?_
                    go_wp2
                    refine hK _ _ ((Below.refl _ _).alloc (Nat.le_refl _) _) ?_
                    clear hK K
                    refine Rp.done ?_
                    go_wp2_with (at_builtin; have ho := (hown.alloc (.cells #[.int .u8 ((by8 (rd H j >>> 24)).toNat : Int), .int .u8 ((by8 (rd H j >>> 16)).toNat : Int), .int .u8 ((by8 (rd H j >>> 8)).toNat : Int), .int .u8 ((by8 (rd H j)).toNat : Int)] 5)).drewN 1; go_must (refine app_ow rfl _ _ 24 24 rfl wb.heap.size 5 i0 (.int .u8 0) 1 1 Tryd.underlying24 hi hz0 hz1 hz2 rfl _ _ _ rfl ho _ _ _ rfl (Rd.src Tryd.underlying24 ((HLIT4.out (rd H j) _).drewN 1) (bys_one _)) (by unfold maxLen; omega) (by omega) (by simp; omega) ?_); go_must (intro v3 w3 how3 hg3); go_must (obtain ⟨q3, c3, rfl⟩ := Ow_form how3); go_must (have hb3 : Below wb.heap.size wb w3 := (Rg.below_drewN (hbo.alloc hso _) 1).grown hg3 (by simp; omega) (fun k hk => (ho.lt k hk).1)); clear hown ho hg3)
                    have HO3 := Lib.hid how3; clear how3
                    refine NoPanic.normal ?_
                    go_wp2
                    refine ⟨⟨j + 1, q3, c3, by omega, by go_num, rfl, ?_, hb3⟩, ?_⟩
                    · rw [HO.out, bys_append]; exact HO3.out
                    · simp [intOf]; omega
                  · obtain rfl : j = 8 := by omega
                    rw [show ((8 : Nat) : Int) = 8 from rfl]
                    rw [List.take_of_length_le (Nat.le_of_eq hHL), HSHA.out] at hown
                    have HR := Lib.hid (Rd.of_ow hown)
                    have HB := Lib.hid (hbk.trans (hbo.mono hsk))
                    clear hown HG' hbo hbk hHL
                    go_wp2_with (refine conv_str rfl 24 9 _ rfl 5 Tryd.underlying9 Tryd.underlying24 Tryd.underlying5 _ _ _ rfl HR.out ?_)
                    go_ret
                    exact ⟨rfl, HB.out⟩
end Ref
end Go.Proofs.YtmkoiddfkanmiaaDoor

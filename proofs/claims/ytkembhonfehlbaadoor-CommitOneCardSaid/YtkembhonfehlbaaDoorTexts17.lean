/- The walk of custumalref17.Texts. -/
import Derived.Test.YtkembhonfehlbaaDoorCommitM
namespace Go.Proofs.YtkembhonfehlbaaDoor
open Go.RowKit Bits Mem Sha
namespace Ref
def tin (k ix : List UInt8) (n : Int) (v : List UInt8) : List UInt8 := padk k 54 ++ (ix ++ (eight n ++ v))
def tout (k ix : List UInt8) (n : Int) (v : List UInt8) : List UInt8 := padk k 92 ++ sha (tin k ix n v)
theorem macKey32 {k : List UInt8} (h : k.length = 32) : macKey k = k := by unfold macKey; rw [if_neg (by omega)]
theorem sha_tout {k ix : List UInt8} {n : Int} {v : List UInt8} (h : k.length = 32) : sha (tout k ix n v) = bound k ix n v := by
  unfold tout tin bound hmac
  rw [macKey32 h]
theorem tin_length (k ix : List UInt8) (n : Int) (v : List UInt8) (h : k.length = 32) : (tin k ix n v).length = 64 + (ix.length + (8 + v.length)) := by
  unfold tin; rw [List.length_append, List.length_append, List.length_append, padk_length k 54 (by omega), eight_length]
theorem tout_length (k ix : List UInt8) (n : Int) (v : List UInt8) (h : k.length = 32) : (tout k ix n v).length = 96 := by
  unfold tout; rw [List.length_append, padk_length k 92 (by omega), sha_length]
set_option maxRecDepth 100000 in
set_option maxHeartbeats 4000000 in
theorem texts17_any (k ix : List UInt8) (n : Int) (v : List UInt8) (w : World) (hR : Ref.Tabs w) (hk : k.length = 32) (hix : ix.length = 32) (hv : v.length ≤ 800000) :
    Calls Tryd.prog 19 #[.string ⟨k.toArray⟩, .string ⟨ix.toArray⟩, .int .i64 n, .string ⟨v.toArray⟩] w fun e w' => ∃ g, e = .returned (.slice (some ⟨g, 0, none⟩) 2 2) ∧ w.heap.size ≤ g ∧ w'.heap[g]? = some (.cells #[.string ⟨(tin k ix n v).toArray⟩, .string ⟨(tout k ix n v).toArray⟩] 9 (0, 0)) ∧ Below w.heap.size w w' := by
  have HR := Lib.hid hR; clear hR
  have HKL := Lib.hid hk
  have HIXL := Lib.hid hix
  have HVL := Lib.hid hv
  have hKl : k.length ≤ 64 := by omega
  have HB : Hid (Below w.heap.size w w) := Lib.hid (Below.refl _ _)
  clear hk hix hv
  go_enter Tryd.func19, Tryd.ntmps19
  go_wp2_with fail
  go_loopw [9, 10, 11] (fun u v i wr => ∃ j : Nat, j ≤ 64 ∧ i = .int .i64 j ∧ u = .string ⟨((padk k 54).take j).toArray⟩ ∧ v = .string ⟨((padk k 92).take j).toArray⟩ ∧ Below w.heap.size w wr) (fun _ _ i _ => 64 - (intOf i).toNat)
  case atStart => exact ⟨0, by omega, rfl, rfl, rfl, HB.out⟩
  case round =>
    obtain ⟨j, hj, rfl, rfl, rfl, hb⟩ := hrel
    have hszw := hb.size
    by_cases hlt : j < 64
    · have hc1 : ¬ (9223372036854775807 < min j (padk k 54).length + 1) := by omega
      have hc2 : ¬ (9223372036854775807 < min j (padk k 92).length + 1) := by omega
      have HI1 := Lib.hid (padk_snoc k 54 j hKl hlt)
      have HI2 := Lib.hid (padk_snoc k 92 j hKl hlt)
      have q1 : (j : Int) < 64 := by omega
      obtain ⟨x, hx⟩ : ∃ x, x = bt (fill k) j := ⟨_, rfl⟩
      rw [← hx] at HI1 HI2
      by_cases hkj : j < k.length
      · rw [fill_lo k j hkj] at hx
        have HX := Lib.hid hx
        clear hx
        have q2 : j < (⟨k.toArray⟩ : ByteArray).size := hkj
        have HD54 : Hid (∀ w1 : World, Rd (w1.alloc (.cells #[.int .u8 ((x.toNat ^^^ 54 : Nat) : Int)] 5)) 1 (.slice (some ⟨w1.heap.size, 0, none⟩) 1 1) 1 (bys [x ^^^ 54])) := Lib.hid (fun w1 => Rd_lit w1 #[.int .u8 ((x.toNat ^^^ 54 : Nat) : Int)] 5 1 1 rfl (by decide))
        have HD92 : Hid (∀ w1 : World, Rd (w1.alloc (.cells #[.int .u8 ((x.toNat ^^^ 92 : Nat) : Int)] 5)) 1 (.slice (some ⟨w1.heap.size, 0, none⟩) 1 1) 1 (bys [x ^^^ 92])) := Lib.hid (fun w1 => Rd_lit w1 #[.int .u8 ((x.toNat ^^^ 92 : Nat) : Int)] 5 1 1 rfl (by decide))
        go_wp2_with fail
        have hxx : (⟨k.toArray⟩ : ByteArray)[j] = x := HX.out.symm
        rw [hxx]
        clear hxx q2
        refine Rp.plan 13 (.s 0 (.s 1 (.s 2 (.s 6 (.s 7 (.s 8 (.b 3 (.s 4 (.s 5 (.s 12 (.f 9 (.s 10 (.s 11 (.done))))))) 9 (.s 10 (.s 11 (.f 3 (.s 4 (.s 5 (.s 12 (.done)))))))))))))) (by kernel_rfl) (by kernel_rfl) ?_; simp only [List.drop_succ_cons, List.drop_zero]
        repeat (refine Rp.pK rfl rfl ?_; intro K hK; apply Exists.intro; refine ⟨?_, ?_⟩; (focus (intro x hx;  go_simp; (first | (fail) | ((try go_bits); (try go_simp); (try rfl))))); go_simp; refine hK _ ?_; clear hK K)
        refine Rp.pB ?_ ?_
        · refine Rp.pOne (by rfl) fun K hK => ?_
          go_wp2_with fail
          refine hK _ _ ((Below.refl _ _).alloc (Nat.le_refl _) _) ?_; clear hK K
          refine Rp.p_str rfl rfl 23 9 _ rfl 5 Tryd.underlying9 Tryd.underlying23 Tryd.underlying5 _ _ ([x ^^^ 54]) rfl ((HD54.out wr).drewN 1) ?_; intro K hK; go_simp; refine hK _ ?_; clear hK K
          repeat (refine Rp.pK rfl rfl ?_; intro K hK; apply Exists.intro; refine ⟨?_, ?_⟩; (focus (intro x hx;  go_simp; (first | (fail) | ((try go_bits); (try go_simp); (try rfl))))); go_simp; refine hK _ ?_; clear hK K)
          refine Rp.pF (by rfl) fun K hK => ?_
          go_wp2_with fail
          refine hK _ _ ((Below.refl _ _).alloc (by simp) _) ?_; clear hK K
          refine Rp.p_str rfl rfl 23 9 _ rfl 5 Tryd.underlying9 Tryd.underlying23 Tryd.underlying5 _ _ ([x ^^^ 92]) rfl ((by have h9 := HD92.out (wr.alloc (.cells #[.int .u8 ((x.toNat ^^^ 54 : Nat) : Int)] 5)); rw [World.size_alloc] at h9; exact h9)) ?_; intro K hK; go_simp; refine hK _ ?_; clear hK K
          repeat (refine Rp.pK rfl rfl ?_; intro K hK; apply Exists.intro; refine ⟨?_, ?_⟩; (focus (intro x hx;  go_simp; (first | (fail) | ((try go_bits); (try go_simp); (try rfl))))); go_simp; refine hK _ ?_; clear hK K)
          refine Rp.pDone ?_; go_wp2_with fail; refine NoPanic.normal ?_; go_wp2_with fail
          refine ⟨⟨j + 1, by omega, by go_num, by (rw [HI1.out]; first | done | rfl), by (rw [HI2.out]; first | done | rfl), ((hb.alloc hszw _).alloc (by simp; omega) _).drew⟩, by simp [intOf]; omega⟩
        · refine Rp.pOne (by rfl) fun K hK => ?_
          go_wp2_with fail
          refine hK _ _ ((Below.refl _ _).alloc (Nat.le_refl _) _) ?_; clear hK K
          refine Rp.p_str rfl rfl 23 9 _ rfl 5 Tryd.underlying9 Tryd.underlying23 Tryd.underlying5 _ _ ([x ^^^ 92]) rfl ((HD92.out wr).drewN 1) ?_; intro K hK; go_simp; refine hK _ ?_; clear hK K
          repeat (refine Rp.pK rfl rfl ?_; intro K hK; apply Exists.intro; refine ⟨?_, ?_⟩; (focus (intro x hx;  go_simp; (first | (fail) | ((try go_bits); (try go_simp); (try rfl))))); go_simp; refine hK _ ?_; clear hK K)
          refine Rp.pF (by rfl) fun K hK => ?_
          go_wp2_with fail
          refine hK _ _ ((Below.refl _ _).alloc (by simp) _) ?_; clear hK K
          refine Rp.p_str rfl rfl 23 9 _ rfl 5 Tryd.underlying9 Tryd.underlying23 Tryd.underlying5 _ _ ([x ^^^ 54]) rfl ((by have h9 := HD54.out (wr.alloc (.cells #[.int .u8 ((x.toNat ^^^ 92 : Nat) : Int)] 5)); rw [World.size_alloc] at h9; exact h9)) ?_; intro K hK; go_simp; refine hK _ ?_; clear hK K
          repeat (refine Rp.pK rfl rfl ?_; intro K hK; apply Exists.intro; refine ⟨?_, ?_⟩; (focus (intro x hx;  go_simp; (first | (fail) | ((try go_bits); (try go_simp); (try rfl))))); go_simp; refine hK _ ?_; clear hK K)
          refine Rp.pDone ?_; go_wp2_with fail; refine NoPanic.normal ?_; go_wp2_with fail
          refine ⟨⟨j + 1, by omega, by go_num, by (rw [HI1.out]; first | done | rfl), by (rw [HI2.out]; first | done | rfl), ((hb.alloc hszw _).alloc (by simp; omega) _).drew⟩, by simp [intOf]; omega⟩
      · rw [fill_hi k j (by omega)] at hx
        subst hx
        have HD54 : Hid (∀ w1 : World, Rd (w1.alloc (.cells #[.int .u8 (54 : Int)] 5)) 1 (.slice (some ⟨w1.heap.size, 0, none⟩) 1 1) 1 (bys [0 ^^^ 54])) := Lib.hid (fun w1 => Rd_lit w1 #[.int .u8 (54 : Int)] 5 1 1 rfl (by decide))
        have HD92 : Hid (∀ w1 : World, Rd (w1.alloc (.cells #[.int .u8 (92 : Int)] 5)) 1 (.slice (some ⟨w1.heap.size, 0, none⟩) 1 1) 1 (bys [0 ^^^ 92])) := Lib.hid (fun w1 => Rd_lit w1 #[.int .u8 (92 : Int)] 5 1 1 rfl (by decide))
        go_wp2_with fail
        refine Rp.plan 13 (.s 0 (.s 1 (.s 2 (.s 6 (.s 7 (.s 8 (.b 3 (.s 4 (.s 5 (.s 12 (.f 9 (.s 10 (.s 11 (.done))))))) 9 (.s 10 (.s 11 (.f 3 (.s 4 (.s 5 (.s 12 (.done)))))))))))))) (by kernel_rfl) (by kernel_rfl) ?_; simp only [List.drop_succ_cons, List.drop_zero]
        repeat (refine Rp.pK rfl rfl ?_; intro K hK; apply Exists.intro; refine ⟨?_, ?_⟩; (focus (intro x hx;  go_simp; (first | (fail) | ((try go_bits); (try go_simp); (try rfl))))); go_simp; refine hK _ ?_; clear hK K)
        refine Rp.pB ?_ ?_
        · refine Rp.pOne (by rfl) fun K hK => ?_
          go_wp2_with fail
          refine hK _ _ ((Below.refl _ _).alloc (Nat.le_refl _) _) ?_; clear hK K
          refine Rp.p_str rfl rfl 23 9 _ rfl 5 Tryd.underlying9 Tryd.underlying23 Tryd.underlying5 _ _ ([0 ^^^ 54]) rfl ((HD54.out wr).drewN 1) ?_; intro K hK; go_simp; refine hK _ ?_; clear hK K
          repeat (refine Rp.pK rfl rfl ?_; intro K hK; apply Exists.intro; refine ⟨?_, ?_⟩; (focus (intro x hx;  go_simp; (first | (fail) | ((try go_bits); (try go_simp); (try rfl))))); go_simp; refine hK _ ?_; clear hK K)
          refine Rp.pF (by rfl) fun K hK => ?_
          go_wp2_with fail
          refine hK _ _ ((Below.refl _ _).alloc (by simp) _) ?_; clear hK K
          refine Rp.p_str rfl rfl 23 9 _ rfl 5 Tryd.underlying9 Tryd.underlying23 Tryd.underlying5 _ _ ([0 ^^^ 92]) rfl ((by have h9 := HD92.out (wr.alloc (.cells #[.int .u8 (54 : Int)] 5)); rw [World.size_alloc] at h9; exact h9)) ?_; intro K hK; go_simp; refine hK _ ?_; clear hK K
          repeat (refine Rp.pK rfl rfl ?_; intro K hK; apply Exists.intro; refine ⟨?_, ?_⟩; (focus (intro x hx;  go_simp; (first | (fail) | ((try go_bits); (try go_simp); (try rfl))))); go_simp; refine hK _ ?_; clear hK K)
          refine Rp.pDone ?_; go_wp2_with fail; refine NoPanic.normal ?_; go_wp2_with fail
          refine ⟨⟨j + 1, by omega, by go_num, by (rw [HI1.out]; first | done | rfl), by (rw [HI2.out]; first | done | rfl), ((hb.alloc hszw _).alloc (by simp; omega) _).drew⟩, by simp [intOf]; omega⟩
        · refine Rp.pOne (by rfl) fun K hK => ?_
          go_wp2_with fail
          refine hK _ _ ((Below.refl _ _).alloc (Nat.le_refl _) _) ?_; clear hK K
          refine Rp.p_str rfl rfl 23 9 _ rfl 5 Tryd.underlying9 Tryd.underlying23 Tryd.underlying5 _ _ ([0 ^^^ 92]) rfl ((HD92.out wr).drewN 1) ?_; intro K hK; go_simp; refine hK _ ?_; clear hK K
          repeat (refine Rp.pK rfl rfl ?_; intro K hK; apply Exists.intro; refine ⟨?_, ?_⟩; (focus (intro x hx;  go_simp; (first | (fail) | ((try go_bits); (try go_simp); (try rfl))))); go_simp; refine hK _ ?_; clear hK K)
          refine Rp.pF (by rfl) fun K hK => ?_
          go_wp2_with fail
          refine hK _ _ ((Below.refl _ _).alloc (by simp) _) ?_; clear hK K
          refine Rp.p_str rfl rfl 23 9 _ rfl 5 Tryd.underlying9 Tryd.underlying23 Tryd.underlying5 _ _ ([0 ^^^ 54]) rfl ((by have h9 := HD54.out (wr.alloc (.cells #[.int .u8 (92 : Int)] 5)); rw [World.size_alloc] at h9; exact h9)) ?_; intro K hK; go_simp; refine hK _ ?_; clear hK K
          repeat (refine Rp.pK rfl rfl ?_; intro K hK; apply Exists.intro; refine ⟨?_, ?_⟩; (focus (intro x hx;  go_simp; (first | (fail) | ((try go_bits); (try go_simp); (try rfl))))); go_simp; refine hK _ ?_; clear hK K)
          refine Rp.pDone ?_; go_wp2_with fail; refine NoPanic.normal ?_; go_wp2_with fail
          refine ⟨⟨j + 1, by omega, by go_num, by (rw [HI1.out]; first | done | rfl), by (rw [HI2.out]; first | done | rfl), ((hb.alloc hszw _).alloc (by simp; omega) _).drew⟩, by simp [intOf]; omega⟩
    · obtain rfl : j = 64 := by omega
      have hp1 := padk_length k 54 hKl
      have hp2 := padk_length k 92 hKl
      rw [List.take_of_length_le (Nat.le_of_eq hp1), List.take_of_length_le (Nat.le_of_eq hp2)]
      obtain ⟨p1, hq1⟩ : ∃ p1, p1 = padk k 54 := ⟨_, rfl⟩
      obtain ⟨p2, hq2⟩ : ∃ p2, p2 = padk k 92 := ⟨_, rfl⟩
      rw [← hq1, ← hq2]
      rw [← hq1] at hp1
      rw [← hq2] at hp2
      have HP1 := Lib.hid hp1
      have HP2 := Lib.hid hp2
      have HQ1 := Lib.hid hq1
      have HQ2 := Lib.hid hq2
      have hlp1 : p1.length ≤ 64 := by omega
      have hlp2 : p2.length ≤ 64 := by omega
      clear hp1 hp2 hq1 hq2
      have hvl := HVL.out
      have hixl : ix.length ≤ 32 := Nat.le_of_eq HIXL.out
      go_wp2_with fail
      refine (eight_any n wr).mono ?_
      rintro e w2 ⟨rfl, hb2⟩
      have hb2w := hb.trans (hb2.mono hszw)
      have hEl : (eight n).length ≤ 8 := Nat.le_of_eq (eight_length n)
      obtain ⟨T, hT⟩ : ∃ T, T = tin k ix n v := ⟨_, rfl⟩
      have HTE : Hid (p1 ++ (ix ++ (eight n ++ v)) = T) := Lib.hid (by rw [hT, HQ1.out]; unfold tin; rfl)
      have hTl : T.length ≤ 800104 := by rw [← HTE.out]; simp only [List.length_append]; omega
      obtain ⟨U, hU⟩ : ∃ U, U = tout k ix n v := ⟨_, rfl⟩
      have HUE : Hid (p2 ++ sha T = U) := Lib.hid (by rw [hT, hU, HQ2.out]; unfold tout; rfl)
      have HTT := Lib.hid hT
      have HUU := Lib.hid hU
      obtain ⟨E, hE⟩ : ∃ E, E = eight n := ⟨_, rfl⟩
      rw [← hE] at HTE hEl ⊢
      have HB2 := Lib.hid hb2w
      clear hE hb2 hb2w hT hU hb
      go_wp2_with fail
      rw [HTE.out]
      refine (sum_any ⟨T.toArray⟩ T (by rfl) _ (HR.out.below HB2.out) (by omega)).mono ?_
      rintro e w3 ⟨rfl, hb3⟩
      have hSl : (sha T).length ≤ 32 := Nat.le_of_eq (sha_length T)
      obtain ⟨S, hS⟩ : ∃ S, S = sha T := ⟨_, rfl⟩
      rw [← hS] at HUE hSl ⊢
      have HB3 := Lib.hid (HB2.out.trans (hb3.mono HB2.out.size))
      clear hb3 hS
      go_wp2_with fail
      rw [HUE.out]
      go_ret
      exact ⟨w3.heap.size, rfl, HB3.out.size, by rw [← HTT.out, ← HUU.out]; exact Rg.heap_alloc_at _ _ _ rfl, HB3.out.alloc HB3.out.size _⟩
end Ref
end Go.Proofs.YtkembhonfehlbaaDoor

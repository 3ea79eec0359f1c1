/- The walk of custumalref03.Of. -/
import Derived.Test.YtmcjjionfmdioaaDoorMacL
namespace Go.Proofs.YtmcjjionfmdioaaDoor
open Go.RowKit Bits Mem Sha
namespace Ref
@[go_sem] theorem u8_xor54 (a : UInt8) : bits .xor .u8 (a.toNat : Int) (54 : Int) = ((a.toNat ^^^ 54 : Nat) : Int) := u8_xor a 54
@[go_sem] theorem u8_xor92 (a : UInt8) : bits .xor .u8 (a.toNat : Int) (92 : Int) = ((a.toNat ^^^ 92 : Nat) : Int) := u8_xor a 92
@[go_sem] theorem u8_zero54 : bits .xor .u8 (0 : Int) (54 : Int) = (54 : Int) := by decide
@[go_sem] theorem u8_zero92 : bits .xor .u8 (0 : Int) (92 : Int) = (92 : Int) := by decide
@[go_sem] theorem bstr_append (a b : List UInt8) : (⟨a.toArray⟩ : ByteArray) ++ ⟨b.toArray⟩ = ⟨(a ++ b).toArray⟩ := by
  apply ByteArray.ext
  simp
theorem padk_snoc (k : List UInt8) (b : UInt8) (i : Nat) (h : k.length ≤ 64) (hi : i < 64) : (padk k b).take (i + 1) = (padk k b).take i ++ [bt (fill k) i ^^^ b] := by
  have hl := padk_length k b h
  have hf := fill_length k h
  rw [List.take_succ_eq_append_getElem (by omega)]
  congr 2
  simp [padk, bt, List.getD, hf, hi]
theorem fill_lo (k : List UInt8) (i : Nat) (hi : i < k.length) : bt (fill k) i = k[i] := by
  unfold bt fill; simp [List.getD, List.getElem?_append_left hi, hi]
theorem fill_hi (k : List UInt8) (i : Nat) (hi : k.length ≤ i) : bt (fill k) i = 0 := by
  unfold bt fill
  rw [List.getD_eq_getElem?_getD, List.getElem?_append_right hi, List.getElem?_replicate]
  split <;> rfl
set_option maxRecDepth 100000 in
set_option maxHeartbeats 1000000 in
theorem refof_any (l m : List UInt8) (w : World) (hR : Ref.Tabs w) (hl : l.length ≤ 1000000) (hm : m.length ≤ 1000000) :
    Calls Tryd.prog 41 #[.string ⟨l.toArray⟩, .string ⟨m.toArray⟩] w fun e w' => e = .returned (.string ⟨(hmac l m).toArray⟩) ∧ Below w.heap.size w w' := by
  have HR := Lib.hid hR; clear hR
  have hs : (⟨l.toArray⟩ : ByteArray).size = l.length := rfl
  have hKl := macKey_length l
  by_cases h64 : 64 < l.length
  · have hkl : macKey l = sha l := by unfold macKey; rw [if_pos h64]
    go_enter Tryd.func41, Tryd.ntmps41
    go_wp2_with fail
    refine (sum_any ⟨l.toArray⟩ l (by rfl) _ HR.out (by omega)).mono ?_
    rintro e w1 ⟨rfl, hb1⟩
    have HB := Lib.hid hb1
    rw [← hkl]
    obtain ⟨k, hk⟩ : ∃ k, k = macKey l := ⟨_, rfl⟩
    rw [← hk] at hKl ⊢
    have HK := Lib.hid hk
    clear hk hb1 hkl hs
    go_wp2_with fail
    go_loopw [5, 6, 7] (fun u v i wr => ∃ j : Nat, j ≤ 64 ∧ i = .int .i64 j ∧ u = .string ⟨((padk k 54).take j).toArray⟩ ∧ v = .string ⟨((padk k 92).take j).toArray⟩ ∧ Below w.heap.size w wr) (fun _ _ i _ => 64 - (intOf i).toNat)
    case atStart => exact ⟨0, by omega, rfl, rfl, rfl, HB.out⟩
    case round =>
      obtain ⟨j, hj, rfl, rfl, rfl, hb⟩ := hrel
      have hszw := hb.size
      by_cases hlt : j < 64
      · have hc1 : ¬ (9223372036854775807 < min j (padk k 54).length + 1) := by omega
        have hc2 : ¬ (9223372036854775807 < min j (padk k 92).length + 1) := by omega
        have HI1 := Lib.hid (padk_snoc k 54 j hKl hlt)
        have HI2 := Lib.hid (padk_snoc k 92 j hKl hlt)
        have q1 : (j : Int) < 64 := by omega
        obtain ⟨x, hx⟩ : ∃ x, x = bt (fill k) j := ⟨_, rfl⟩
        rw [← hx] at HI1 HI2
        by_cases hkj : j < k.length
        · rw [fill_lo k j hkj] at hx
          have HX := Lib.hid hx
          clear hx
          have q2 : j < (⟨k.toArray⟩ : ByteArray).size := hkj
          have HD54 : Hid (∀ w1 : World, Rd (w1.alloc (.cells #[.int .u8 ((x.toNat ^^^ 54 : Nat) : Int)] 5)) 1 (.slice (some ⟨w1.heap.size, 0, none⟩) 1 1) 1 (bys [x ^^^ 54])) := Lib.hid (fun w1 => Rd_lit w1 #[.int .u8 ((x.toNat ^^^ 54 : Nat) : Int)] 5 1 1 rfl (by decide))
          have HD92 : Hid (∀ w1 : World, Rd (w1.alloc (.cells #[.int .u8 ((x.toNat ^^^ 92 : Nat) : Int)] 5)) 1 (.slice (some ⟨w1.heap.size, 0, none⟩) 1 1) 1 (bys [x ^^^ 92])) := Lib.hid (fun w1 => Rd_lit w1 #[.int .u8 ((x.toNat ^^^ 92 : Nat) : Int)] 5 1 1 rfl (by decide))
          go_wp2_with fail
          have hxx : (⟨k.toArray⟩ : ByteArray)[j] = x := HX.out.symm
          rw [hxx]
          clear hxx q2
          refine Rp.plan 13 (.s 0 (.s 1 (.s 2 (.s 6 (.s 7 (.s 8 (.b 3 (.s 4 (.s 5 (.s 12 (.f 9 (.s 10 (.s 11 (.done))))))) 9 (.s 10 (.s 11 (.f 3 (.s 4 (.s 5 (.s 12 (.done)))))))))))))) (by kernel_rfl) (by kernel_rfl) ?_; simp only [List.drop_succ_cons, List.drop_zero]
          repeat (refine Rp.pK rfl rfl ?_; intro K hK; apply Exists.intro; refine ⟨?_, ?_⟩; (focus (intro x hx;  go_simp; (first | (fail) | ((try go_bits); (try go_simp); (try rfl))))); go_simp; refine hK _ ?_; clear hK K)
          refine Rp.pB ?_ ?_
          · refine Rp.pOne (by rfl) fun K hK => ?_
            go_wp2_with fail
            refine hK _ _ ((Below.refl _ _).alloc (Nat.le_refl _) _) ?_; clear hK K
            refine Rp.p_str rfl rfl 28 9 _ rfl 5 Tryd.underlying9 Tryd.underlying28 Tryd.underlying5 _ _ ([x ^^^ 54]) rfl ((HD54.out wr).drewN 1) ?_; intro K hK; go_simp; refine hK _ ?_; clear hK K
            repeat (refine Rp.pK rfl rfl ?_; intro K hK; apply Exists.intro; refine ⟨?_, ?_⟩; (focus (intro x hx;  go_simp; (first | (fail) | ((try go_bits); (try go_simp); (try rfl))))); go_simp; refine hK _ ?_; clear hK K)
            refine Rp.pF (by rfl) fun K hK => ?_
            go_wp2_with fail
            refine hK _ _ ((Below.refl _ _).alloc (by simp) _) ?_; clear hK K
            refine Rp.p_str rfl rfl 28 9 _ rfl 5 Tryd.underlying9 Tryd.underlying28 Tryd.underlying5 _ _ ([x ^^^ 92]) rfl ((by have h9 := HD92.out (wr.alloc (.cells #[.int .u8 ((x.toNat ^^^ 54 : Nat) : Int)] 5)); rw [World.size_alloc] at h9; exact h9)) ?_; intro K hK; go_simp; refine hK _ ?_; clear hK K
            repeat (refine Rp.pK rfl rfl ?_; intro K hK; apply Exists.intro; refine ⟨?_, ?_⟩; (focus (intro x hx;  go_simp; (first | (fail) | ((try go_bits); (try go_simp); (try rfl))))); go_simp; refine hK _ ?_; clear hK K)
            refine Rp.pDone ?_; go_wp2_with fail; refine NoPanic.normal ?_; go_wp2_with fail
            refine ⟨⟨j + 1, by omega, by go_num, by (rw [HI1.out]; first | done | rfl), by (rw [HI2.out]; first | done | rfl), ((hb.alloc hszw _).alloc (by simp; omega) _).drew⟩, by simp [intOf]; omega⟩
          · refine Rp.pOne (by rfl) fun K hK => ?_
            go_wp2_with fail
            refine hK _ _ ((Below.refl _ _).alloc (Nat.le_refl _) _) ?_; clear hK K
            refine Rp.p_str rfl rfl 28 9 _ rfl 5 Tryd.underlying9 Tryd.underlying28 Tryd.underlying5 _ _ ([x ^^^ 92]) rfl ((HD92.out wr).drewN 1) ?_; intro K hK; go_simp; refine hK _ ?_; clear hK K
            repeat (refine Rp.pK rfl rfl ?_; intro K hK; apply Exists.intro; refine ⟨?_, ?_⟩; (focus (intro x hx;  go_simp; (first | (fail) | ((try go_bits); (try go_simp); (try rfl))))); go_simp; refine hK _ ?_; clear hK K)
            refine Rp.pF (by rfl) fun K hK => ?_
            go_wp2_with fail
            refine hK _ _ ((Below.refl _ _).alloc (by simp) _) ?_; clear hK K
            refine Rp.p_str rfl rfl 28 9 _ rfl 5 Tryd.underlying9 Tryd.underlying28 Tryd.underlying5 _ _ ([x ^^^ 54]) rfl ((by have h9 := HD54.out (wr.alloc (.cells #[.int .u8 ((x.toNat ^^^ 92 : Nat) : Int)] 5)); rw [World.size_alloc] at h9; exact h9)) ?_; intro K hK; go_simp; refine hK _ ?_; clear hK K
            repeat (refine Rp.pK rfl rfl ?_; intro K hK; apply Exists.intro; refine ⟨?_, ?_⟩; (focus (intro x hx;  go_simp; (first | (fail) | ((try go_bits); (try go_simp); (try rfl))))); go_simp; refine hK _ ?_; clear hK K)
            refine Rp.pDone ?_; go_wp2_with fail; refine NoPanic.normal ?_; go_wp2_with fail
            refine ⟨⟨j + 1, by omega, by go_num, by (rw [HI1.out]; first | done | rfl), by (rw [HI2.out]; first | done | rfl), ((hb.alloc hszw _).alloc (by simp; omega) _).drew⟩, by simp [intOf]; omega⟩
        · rw [fill_hi k j (by omega)] at hx
          subst hx
          have HD54 : Hid (∀ w1 : World, Rd (w1.alloc (.cells #[.int .u8 (54 : Int)] 5)) 1 (.slice (some ⟨w1.heap.size, 0, none⟩) 1 1) 1 (bys [0 ^^^ 54])) := Lib.hid (fun w1 => Rd_lit w1 #[.int .u8 (54 : Int)] 5 1 1 rfl (by decide))
          have HD92 : Hid (∀ w1 : World, Rd (w1.alloc (.cells #[.int .u8 (92 : Int)] 5)) 1 (.slice (some ⟨w1.heap.size, 0, none⟩) 1 1) 1 (bys [0 ^^^ 92])) := Lib.hid (fun w1 => Rd_lit w1 #[.int .u8 (92 : Int)] 5 1 1 rfl (by decide))
          go_wp2_with fail
          refine Rp.plan 13 (.s 0 (.s 1 (.s 2 (.s 6 (.s 7 (.s 8 (.b 3 (.s 4 (.s 5 (.s 12 (.f 9 (.s 10 (.s 11 (.done))))))) 9 (.s 10 (.s 11 (.f 3 (.s 4 (.s 5 (.s 12 (.done)))))))))))))) (by kernel_rfl) (by kernel_rfl) ?_; simp only [List.drop_succ_cons, List.drop_zero]
          repeat (refine Rp.pK rfl rfl ?_; intro K hK; apply Exists.intro; refine ⟨?_, ?_⟩; (focus (intro x hx;  go_simp; (first | (fail) | ((try go_bits); (try go_simp); (try rfl))))); go_simp; refine hK _ ?_; clear hK K)
          refine Rp.pB ?_ ?_
          · refine Rp.pOne (by rfl) fun K hK => ?_
            go_wp2_with fail
            refine hK _ _ ((Below.refl _ _).alloc (Nat.le_refl _) _) ?_; clear hK K
            refine Rp.p_str rfl rfl 28 9 _ rfl 5 Tryd.underlying9 Tryd.underlying28 Tryd.underlying5 _ _ ([0 ^^^ 54]) rfl ((HD54.out wr).drewN 1) ?_; intro K hK; go_simp; refine hK _ ?_; clear hK K
            repeat (refine Rp.pK rfl rfl ?_; intro K hK; apply Exists.intro; refine ⟨?_, ?_⟩; (focus (intro x hx;  go_simp; (first | (fail) | ((try go_bits); (try go_simp); (try rfl))))); go_simp; refine hK _ ?_; clear hK K)
            refine Rp.pF (by rfl) fun K hK => ?_
            go_wp2_with fail
            refine hK _ _ ((Below.refl _ _).alloc (by simp) _) ?_; clear hK K
            refine Rp.p_str rfl rfl 28 9 _ rfl 5 Tryd.underlying9 Tryd.underlying28 Tryd.underlying5 _ _ ([0 ^^^ 92]) rfl ((by have h9 := HD92.out (wr.alloc (.cells #[.int .u8 (54 : Int)] 5)); rw [World.size_alloc] at h9; exact h9)) ?_; intro K hK; go_simp; refine hK _ ?_; clear hK K
            repeat (refine Rp.pK rfl rfl ?_; intro K hK; apply Exists.intro; refine ⟨?_, ?_⟩; (focus (intro x hx;  go_simp; (first | (fail) | ((try go_bits); (try go_simp); (try rfl))))); go_simp; refine hK _ ?_; clear hK K)
            refine Rp.pDone ?_; go_wp2_with fail; refine NoPanic.normal ?_; go_wp2_with fail
            refine ⟨⟨j + 1, by omega, by go_num, by (rw [HI1.out]; first | done | rfl), by (rw [HI2.out]; first | done | rfl), ((hb.alloc hszw _).alloc (by simp; omega) _).drew⟩, by simp [intOf]; omega⟩
          · refine Rp.pOne (by rfl) fun K hK => ?_
            go_wp2_with fail
            refine hK _ _ ((Below.refl _ _).alloc (Nat.le_refl _) _) ?_; clear hK K
            refine Rp.p_str rfl rfl 28 9 _ rfl 5 Tryd.underlying9 Tryd.underlying28 Tryd.underlying5 _ _ ([0 ^^^ 92]) rfl ((HD92.out wr).drewN 1) ?_; intro K hK; go_simp; refine hK _ ?_; clear hK K
            repeat (refine Rp.pK rfl rfl ?_; intro K hK; apply Exists.intro; refine ⟨?_, ?_⟩; (focus (intro x hx;  go_simp; (first | (fail) | ((try go_bits); (try go_simp); (try rfl))))); go_simp; refine hK _ ?_; clear hK K)
            refine Rp.pF (by rfl) fun K hK => ?_
            go_wp2_with fail
            refine hK _ _ ((Below.refl _ _).alloc (by simp) _) ?_; clear hK K
            refine Rp.p_str rfl rfl 28 9 _ rfl 5 Tryd.underlying9 Tryd.underlying28 Tryd.underlying5 _ _ ([0 ^^^ 54]) rfl ((by have h9 := HD54.out (wr.alloc (.cells #[.int .u8 (92 : Int)] 5)); rw [World.size_alloc] at h9; exact h9)) ?_; intro K hK; go_simp; refine hK _ ?_; clear hK K
            repeat (refine Rp.pK rfl rfl ?_; intro K hK; apply Exists.intro; refine ⟨?_, ?_⟩; (focus (intro x hx;  go_simp; (first | (fail) | ((try go_bits); (try go_simp); (try rfl))))); go_simp; refine hK _ ?_; clear hK K)
            refine Rp.pDone ?_; go_wp2_with fail; refine NoPanic.normal ?_; go_wp2_with fail
            refine ⟨⟨j + 1, by omega, by go_num, by (rw [HI1.out]; first | done | rfl), by (rw [HI2.out]; first | done | rfl), ((hb.alloc hszw _).alloc (by simp; omega) _).drew⟩, by simp [intOf]; omega⟩
      · obtain rfl : j = 64 := by omega
        have hp1 := padk_length k 54 hKl
        have hp2 := padk_length k 92 hKl
        rw [List.take_of_length_le (Nat.le_of_eq hp1), List.take_of_length_le (Nat.le_of_eq hp2)]
        obtain ⟨p1, hq1⟩ : ∃ p1, p1 = padk k 54 := ⟨_, rfl⟩
        obtain ⟨p2, hq2⟩ : ∃ p2, p2 = padk k 92 := ⟨_, rfl⟩
        rw [← hq1, ← hq2]
        rw [← hq1] at hp1
        rw [← hq2] at hp2
        have HP1 := Lib.hid hp1
        have HP2 := Lib.hid hp2
        have HQ1 := Lib.hid hq1
        have HQ2 := Lib.hid hq2
        have hlp1 : p1.length ≤ 64 := by omega
        have hlp2 : p2.length ≤ 64 := by omega
        clear hp1 hp2 hq1 hq2
        go_wp2_with fail
        refine (sum_any ⟨(p1 ++ m).toArray⟩ (p1 ++ m) (by simp) _ (HR.out.below hb) (by rw [List.length_append]; omega)).mono ?_
        rintro e w2 ⟨rfl, hb2⟩
        have HB2 := Lib.hid (hb.trans (hb2.mono hb.size))
        have hsl := sha_length (p1 ++ m)
        have hsl2 : (sha (p1 ++ m)).length ≤ 32 := by omega
        have HIN : Hid (sha (p2 ++ sha (p1 ++ m)) = hmac l m) := Lib.hid (by unfold hmac; rw [← HK.out, HQ1.out, HQ2.out])
        obtain ⟨S, hS⟩ : ∃ S, S = sha (p1 ++ m) := ⟨_, rfl⟩
        rw [← hS] at hsl2 HIN ⊢
        clear hb2 hsl hS
        go_wp2_with fail
        refine (sum_any ⟨(p2 ++ S).toArray⟩ (p2 ++ S) (by simp) _ (HR.out.below HB2.out) (by rw [List.length_append]; omega)).mono ?_
        rintro e w3 ⟨rfl, hb3⟩
        have HB3 := Lib.hid (HB2.out.trans (hb3.mono HB2.out.size))
        rw [HIN.out]
        clear hb3
        go_wp2_with fail
        go_ret
        exact ⟨rfl, HB3.out⟩
  · have hkl : macKey l = l := by unfold macKey; rw [if_neg h64]
    go_enter Tryd.func41, Tryd.ntmps41
    have h64' : ¬ (64 < (l.length : Int)) := by omega
    obtain ⟨k, hk⟩ : ∃ k, k = macKey l := ⟨_, rfl⟩
    rw [← hk] at hKl hkl
    have HK := Lib.hid hk
    subst hkl
    have HB : Hid (Below w.heap.size w w) := Lib.hid (Below.refl _ _)
    clear hk hs
    go_wp2_with fail
    go_loopw [5, 6, 7] (fun u v i wr => ∃ j : Nat, j ≤ 64 ∧ i = .int .i64 j ∧ u = .string ⟨((padk k 54).take j).toArray⟩ ∧ v = .string ⟨((padk k 92).take j).toArray⟩ ∧ Below w.heap.size w wr) (fun _ _ i _ => 64 - (intOf i).toNat)
    case atStart => exact ⟨0, by omega, rfl, rfl, rfl, HB.out⟩
    case round =>
      obtain ⟨j, hj, rfl, rfl, rfl, hb⟩ := hrel
      have hszw := hb.size
      by_cases hlt : j < 64
      · have hc1 : ¬ (9223372036854775807 < min j (padk k 54).length + 1) := by omega
        have hc2 : ¬ (9223372036854775807 < min j (padk k 92).length + 1) := by omega
        have HI1 := Lib.hid (padk_snoc k 54 j hKl hlt)
        have HI2 := Lib.hid (padk_snoc k 92 j hKl hlt)
        have q1 : (j : Int) < 64 := by omega
        obtain ⟨x, hx⟩ : ∃ x, x = bt (fill k) j := ⟨_, rfl⟩
        rw [← hx] at HI1 HI2
        by_cases hkj : j < k.length
        · rw [fill_lo k j hkj] at hx
          have HX := Lib.hid hx
          clear hx
          have q2 : j < (⟨k.toArray⟩ : ByteArray).size := hkj
          have HD54 : Hid (∀ w1 : World, Rd (w1.alloc (.cells #[.int .u8 ((x.toNat ^^^ 54 : Nat) : Int)] 5)) 1 (.slice (some ⟨w1.heap.size, 0, none⟩) 1 1) 1 (bys [x ^^^ 54])) := Lib.hid (fun w1 => Rd_lit w1 #[.int .u8 ((x.toNat ^^^ 54 : Nat) : Int)] 5 1 1 rfl (by decide))
          have HD92 : Hid (∀ w1 : World, Rd (w1.alloc (.cells #[.int .u8 ((x.toNat ^^^ 92 : Nat) : Int)] 5)) 1 (.slice (some ⟨w1.heap.size, 0, none⟩) 1 1) 1 (bys [x ^^^ 92])) := Lib.hid (fun w1 => Rd_lit w1 #[.int .u8 ((x.toNat ^^^ 92 : Nat) : Int)] 5 1 1 rfl (by decide))
          go_wp2_with fail
          have hxx : (⟨k.toArray⟩ : ByteArray)[j] = x := HX.out.symm
          rw [hxx]
          clear hxx q2
          refine Rp.plan 13 (.s 0 (.s 1 (.s 2 (.s 6 (.s 7 (.s 8 (.b 3 (.s 4 (.s 5 (.s 12 (.f 9 (.s 10 (.s 11 (.done))))))) 9 (.s 10 (.s 11 (.f 3 (.s 4 (.s 5 (.s 12 (.done)))))))))))))) (by kernel_rfl) (by kernel_rfl) ?_; simp only [List.drop_succ_cons, List.drop_zero]
          repeat (refine Rp.pK rfl rfl ?_; intro K hK; apply Exists.intro; refine ⟨?_, ?_⟩; (focus (intro x hx;  go_simp; (first | (fail) | ((try go_bits); (try go_simp); (try rfl))))); go_simp; refine hK _ ?_; clear hK K)
          refine Rp.pB ?_ ?_
          · refine Rp.pOne (by rfl) fun K hK => ?_
            go_wp2_with fail
            refine hK _ _ ((Below.refl _ _).alloc (Nat.le_refl _) _) ?_; clear hK K
            refine Rp.p_str rfl rfl 28 9 _ rfl 5 Tryd.underlying9 Tryd.underlying28 Tryd.underlying5 _ _ ([x ^^^ 54]) rfl ((HD54.out wr).drewN 1) ?_; intro K hK; go_simp; refine hK _ ?_; clear hK K
            repeat (refine Rp.pK rfl rfl ?_; intro K hK; apply Exists.intro; refine ⟨?_, ?_⟩; (focus (intro x hx;  go_simp; (first | (fail) | ((try go_bits); (try go_simp); (try rfl))))); go_simp; refine hK _ ?_; clear hK K)
            refine Rp.pF (by rfl) fun K hK => ?_
            go_wp2_with fail
            refine hK _ _ ((Below.refl _ _).alloc (by simp) _) ?_; clear hK K
            refine Rp.p_str rfl rfl 28 9 _ rfl 5 Tryd.underlying9 Tryd.underlying28 Tryd.underlying5 _ _ ([x ^^^ 92]) rfl ((by have h9 := HD92.out (wr.alloc (.cells #[.int .u8 ((x.toNat ^^^ 54 : Nat) : Int)] 5)); rw [World.size_alloc] at h9; exact h9)) ?_; intro K hK; go_simp; refine hK _ ?_; clear hK K
            repeat (refine Rp.pK rfl rfl ?_; intro K hK; apply Exists.intro; refine ⟨?_, ?_⟩; (focus (intro x hx;  go_simp; (first | (fail) | ((try go_bits); (try go_simp); (try rfl))))); go_simp; refine hK _ ?_; clear hK K)
            refine Rp.pDone ?_; go_wp2_with fail; refine NoPanic.normal ?_; go_wp2_with fail
            refine ⟨⟨j + 1, by omega, by go_num, by (rw [HI1.out]; first | done | rfl), by (rw [HI2.out]; first | done | rfl), ((hb.alloc hszw _).alloc (by simp; omega) _).drew⟩, by simp [intOf]; omega⟩
          · refine Rp.pOne (by rfl) fun K hK => ?_
            go_wp2_with fail
            refine hK _ _ ((Below.refl _ _).alloc (Nat.le_refl _) _) ?_; clear hK K
            refine Rp.p_str rfl rfl 28 9 _ rfl 5 Tryd.underlying9 Tryd.underlying28 Tryd.underlying5 _ _ ([x ^^^ 92]) rfl ((HD92.out wr).drewN 1) ?_; intro K hK; go_simp; refine hK _ ?_; clear hK K
            repeat (refine Rp.pK rfl rfl ?_; intro K hK; apply Exists.intro; refine ⟨?_, ?_⟩; (focus (intro x hx;  go_simp; (first | (fail) | ((try go_bits); (try go_simp); (try rfl))))); go_simp; refine hK _ ?_; clear hK K)
            refine Rp.pF (by rfl) fun K hK => ?_
            go_wp2_with fail
            refine hK _ _ ((Below.refl _ _).alloc (by simp) _) ?_; clear hK K
            refine Rp.p_str rfl rfl 28 9 _ rfl 5 Tryd.underlying9 Tryd.underlying28 Tryd.underlying5 _ _ ([x ^^^ 54]) rfl ((by have h9 := HD54.out (wr.alloc (.cells #[.int .u8 ((x.toNat ^^^ 92 : Nat) : Int)] 5)); rw [World.size_alloc] at h9; exact h9)) ?_; intro K hK; go_simp; refine hK _ ?_; clear hK K
            repeat (refine Rp.pK rfl rfl ?_; intro K hK; apply Exists.intro; refine ⟨?_, ?_⟩; (focus (intro x hx;  go_simp; (first | (fail) | ((try go_bits); (try go_simp); (try rfl))))); go_simp; refine hK _ ?_; clear hK K)
            refine Rp.pDone ?_; go_wp2_with fail; refine NoPanic.normal ?_; go_wp2_with fail
            refine ⟨⟨j + 1, by omega, by go_num, by (rw [HI1.out]; first | done | rfl), by (rw [HI2.out]; first | done | rfl), ((hb.alloc hszw _).alloc (by simp; omega) _).drew⟩, by simp [intOf]; omega⟩
        · rw [fill_hi k j (by omega)] at hx
          subst hx
          have HD54 : Hid (∀ w1 : World, Rd (w1.alloc (.cells #[.int .u8 (54 : Int)] 5)) 1 (.slice (some ⟨w1.heap.size, 0, none⟩) 1 1) 1 (bys [0 ^^^ 54])) := Lib.hid (fun w1 => Rd_lit w1 #[.int .u8 (54 : Int)] 5 1 1 rfl (by decide))
          have HD92 : Hid (∀ w1 : World, Rd (w1.alloc (.cells #[.int .u8 (92 : Int)] 5)) 1 (.slice (some ⟨w1.heap.size, 0, none⟩) 1 1) 1 (bys [0 ^^^ 92])) := Lib.hid (fun w1 => Rd_lit w1 #[.int .u8 (92 : Int)] 5 1 1 rfl (by decide))
          go_wp2_with fail
          refine Rp.plan 13 (.s 0 (.s 1 (.s 2 (.s 6 (.s 7 (.s 8 (.b 3 (.s 4 (.s 5 (.s 12 (.f 9 (.s 10 (.s 11 (.done))))))) 9 (.s 10 (.s 11 (.f 3 (.s 4 (.s 5 (.s 12 (.done)))))))))))))) (by kernel_rfl) (by kernel_rfl) ?_; simp only [List.drop_succ_cons, List.drop_zero]
          repeat (refine Rp.pK rfl rfl ?_; intro K hK; apply Exists.intro; refine ⟨?_, ?_⟩; (focus (intro x hx;  go_simp; (first | (fail) | ((try go_bits); (try go_simp); (try rfl))))); go_simp; refine hK _ ?_; clear hK K)
          refine Rp.pB ?_ ?_
          · refine Rp.pOne (by rfl) fun K hK => ?_
            go_wp2_with fail
            refine hK _ _ ((Below.refl _ _).alloc (Nat.le_refl _) _) ?_; clear hK K
            refine Rp.p_str rfl rfl 28 9 _ rfl 5 Tryd.underlying9 Tryd.underlying28 Tryd.underlying5 _ _ ([0 ^^^ 54]) rfl ((HD54.out wr).drewN 1) ?_; intro K hK; go_simp; refine hK _ ?_; clear hK K
            repeat (refine Rp.pK rfl rfl ?_; intro K hK; apply Exists.intro; refine ⟨?_, ?_⟩; (focus (intro x hx;  go_simp; (first | (fail) | ((try go_bits); (try go_simp); (try rfl))))); go_simp; refine hK _ ?_; clear hK K)
            refine Rp.pF (by rfl) fun K hK => ?_
            go_wp2_with fail
            refine hK _ _ ((Below.refl _ _).alloc (by simp) _) ?_; clear hK K
            refine Rp.p_str rfl rfl 28 9 _ rfl 5 Tryd.underlying9 Tryd.underlying28 Tryd.underlying5 _ _ ([0 ^^^ 92]) rfl ((by have h9 := HD92.out (wr.alloc (.cells #[.int .u8 (54 : Int)] 5)); rw [World.size_alloc] at h9; exact h9)) ?_; intro K hK; go_simp; refine hK _ ?_; clear hK K
            repeat (refine Rp.pK rfl rfl ?_; intro K hK; apply Exists.intro; refine ⟨?_, ?_⟩; (focus (intro x hx;  go_simp; (first | (fail) | ((try go_bits); (try go_simp); (try rfl))))); go_simp; refine hK _ ?_; clear hK K)
            refine Rp.pDone ?_; go_wp2_with fail; refine NoPanic.normal ?_; go_wp2_with fail
            refine ⟨⟨j + 1, by omega, by go_num, by (rw [HI1.out]; first | done | rfl), by (rw [HI2.out]; first | done | rfl), ((hb.alloc hszw _).alloc (by simp; omega) _).drew⟩, by simp [intOf]; omega⟩
          · refine Rp.pOne (by rfl) fun K hK => ?_
            go_wp2_with fail
            refine hK _ _ ((Below.refl _ _).alloc (Nat.le_refl _) _) ?_; clear hK K
            refine Rp.p_str rfl rfl 28 9 _ rfl 5 Tryd.underlying9 Tryd.underlying28 Tryd.underlying5 _ _ ([0 ^^^ 92]) rfl ((HD92.out wr).drewN 1) ?_; intro K hK; go_simp; refine hK _ ?_; clear hK K
            repeat (refine Rp.pK rfl rfl ?_; intro K hK; apply Exists.intro; refine ⟨?_, ?_⟩; (focus (intro x hx;  go_simp; (first | (fail) | ((try go_bits); (try go_simp); (try rfl))))); go_simp; refine hK _ ?_; clear hK K)
            refine Rp.pF (by rfl) fun K hK => ?_
            go_wp2_with fail
            refine hK _ _ ((Below.refl _ _).alloc (by simp) _) ?_; clear hK K
            refine Rp.p_str rfl rfl 28 9 _ rfl 5 Tryd.underlying9 Tryd.underlying28 Tryd.underlying5 _ _ ([0 ^^^ 54]) rfl ((by have h9 := HD54.out (wr.alloc (.cells #[.int .u8 (92 : Int)] 5)); rw [World.size_alloc] at h9; exact h9)) ?_; intro K hK; go_simp; refine hK _ ?_; clear hK K
            repeat (refine Rp.pK rfl rfl ?_; intro K hK; apply Exists.intro; refine ⟨?_, ?_⟩; (focus (intro x hx;  go_simp; (first | (fail) | ((try go_bits); (try go_simp); (try rfl))))); go_simp; refine hK _ ?_; clear hK K)
            refine Rp.pDone ?_; go_wp2_with fail; refine NoPanic.normal ?_; go_wp2_with fail
            refine ⟨⟨j + 1, by omega, by go_num, by (rw [HI1.out]; first | done | rfl), by (rw [HI2.out]; first | done | rfl), ((hb.alloc hszw _).alloc (by simp; omega) _).drew⟩, by simp [intOf]; omega⟩
      · obtain rfl : j = 64 := by omega
        have hp1 := padk_length k 54 hKl
        have hp2 := padk_length k 92 hKl
        rw [List.take_of_length_le (Nat.le_of_eq hp1), List.take_of_length_le (Nat.le_of_eq hp2)]
        obtain ⟨p1, hq1⟩ : ∃ p1, p1 = padk k 54 := ⟨_, rfl⟩
        obtain ⟨p2, hq2⟩ : ∃ p2, p2 = padk k 92 := ⟨_, rfl⟩
        rw [← hq1, ← hq2]
        rw [← hq1] at hp1
        rw [← hq2] at hp2
        have HP1 := Lib.hid hp1
        have HP2 := Lib.hid hp2
        have HQ1 := Lib.hid hq1
        have HQ2 := Lib.hid hq2
        have hlp1 : p1.length ≤ 64 := by omega
        have hlp2 : p2.length ≤ 64 := by omega
        clear hp1 hp2 hq1 hq2
        go_wp2_with fail
        refine (sum_any ⟨(p1 ++ m).toArray⟩ (p1 ++ m) (by simp) _ (HR.out.below hb) (by rw [List.length_append]; omega)).mono ?_
        rintro e w2 ⟨rfl, hb2⟩
        have HB2 := Lib.hid (hb.trans (hb2.mono hb.size))
        have hsl := sha_length (p1 ++ m)
        have hsl2 : (sha (p1 ++ m)).length ≤ 32 := by omega
        have HIN : Hid (sha (p2 ++ sha (p1 ++ m)) = hmac k m) := Lib.hid (by unfold hmac; rw [← HK.out, HQ1.out, HQ2.out])
        obtain ⟨S, hS⟩ : ∃ S, S = sha (p1 ++ m) := ⟨_, rfl⟩
        rw [← hS] at hsl2 HIN ⊢
        clear hb2 hsl hS
        go_wp2_with fail
        refine (sum_any ⟨(p2 ++ S).toArray⟩ (p2 ++ S) (by simp) _ (HR.out.below HB2.out) (by rw [List.length_append]; omega)).mono ?_
        rintro e w3 ⟨rfl, hb3⟩
        have HB3 := Lib.hid (HB2.out.trans (hb3.mono HB2.out.size))
        rw [HIN.out]
        clear hb3
        go_wp2_with fail
        go_ret
        exact ⟨rfl, HB3.out⟩
end Ref
end Go.Proofs.YtmcjjionfmdioaaDoor

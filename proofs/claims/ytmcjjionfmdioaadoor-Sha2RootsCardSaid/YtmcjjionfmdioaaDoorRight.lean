/- The walk of custumalref01.Right: it is true. -/
import Derived.Test.YtmcjjionfmdioaaDoorRootsW
import Derived.Test.YtmcjjionfmdioaaDoorRefP
namespace Go.Proofs.YtmcjjionfmdioaaDoor
open Go.RowKit Bits Mem Roots
namespace Ref
theorem KK_nat : ∀ i, i < 64 → (Sha.rd Sha.KK i).toNat = Sha.KKn.getD i 0 := by decide +kernel
theorem HH_nat : ∀ i, i < 8 → (Sha.rd Sha.HH i).toNat = Sha.HHn.getD i 0 := by decide +kernel
theorem cell_KK {w : World} {t : TypeId} {f : Nat × Nat} {g : Nat} (h : w.heap[g]? = some (.cells (cI Sha.KK) t f)) (i : Nat) (hi : i < 64) : w.cell? ⟨g, i, none⟩ = some (.int .i64 ((Sha.KKn.getD i 0 : Nat) : Int)) := by
  rw [cell_of_row w g _ _ _ _ h, cI_get _ _ (by rw [Sha.KK_length]; exact hi)]
  unfold n32
  rw [KK_nat i hi]
theorem cell_HH {w : World} {t : TypeId} {f : Nat × Nat} {g : Nat} (h : w.heap[g]? = some (.cells (cI Sha.HH) t f)) (i : Nat) (hi : i < 8) : w.cell? ⟨g, i, none⟩ = some (.int .i64 ((Sha.HHn.getD i 0 : Nat) : Int)) := by
  rw [cell_of_row w g _ _ _ _ h, cI_get _ _ (by rw [Sha.HH_length]; exact hi)]
  unfold n32
  rw [HH_nat i hi]
theorem cell_limb {w : World} {t : TypeId} {f : Nat × Nat} {g x : Nat} (h : w.heap[g]? = some (.cells (cN (limbs x)) t f)) (i : Nat) (hi : i < 28) : w.cell? ⟨g, i, none⟩ = some (.int .i64 (lb x i : Int)) := by
  rw [cell_of_row w g _ _ _ _ h, cN_get _ _ _ (limbs_get x i hi)]
set_option maxRecDepth 100000 in
set_option maxHeartbeats 4000000 in
theorem right_any (w : World) (hT : Tabs w) :
    Calls Tryd.prog 20 #[] w fun e w' => e = .returned (.bool true) ∧ Below w.heap.size w w' := by
  have HT := Lib.hid hT
  clear hT
  go_enter Tryd.func20, Tryd.ntmps20
  go_wp2_with fail
  go_loopw [1] (fun i wr => ∃ k : Nat, k ≤ 64 ∧ i = .int .i64 k ∧ Below w.heap.size w wr) (fun i _ => 64 - (intOf i).toNat)
  case atStart => exact ⟨0, by omega, rfl, Below.refl _ _⟩
  case round =>
    obtain ⟨k, hk, rfl, hb⟩ := hrel
    have HB := Lib.hid hb
    clear hb
    by_cases hlt : k < 64
    · have hkI : (k : Int) < 64 := by omega
      go_wp2_with fail
      refine (prime_any k wr (by omega)).mono ?_
      rintro e w1 ⟨⟨n, rfl, hn1, hn2, hn3, hn4⟩, hw1⟩
      subst hw1
      have HN := Lib.hid (And.intro hn1 (And.intro hn2 (And.intro hn3 hn4)))
      clear hn2 hn3 hn4
      go_wp2_with fail
      refine (root_any n true w1 hn1).mono ?_
      rintro e w2 ⟨rfl, hb2⟩
      obtain ⟨X, hX⟩ : ∃ X, X = rts true n 38 := ⟨_, rfl⟩
      rw [← hX]
      have HIX := Lib.hid (infoLimbs X)
      have HX := Lib.hid hX
      have HB2 := Lib.hid (HB.out.trans (hb2.mono HB.out.size))
      clear hb2 hX hn1
      obtain ⟨w3, hw3⟩ : ∃ w3, w3 = w2.alloc (.cells (cN (limbs X)) 74) := ⟨_, rfl⟩
      have hb3 : Below w2.heap.size w2 w3 := by rw [hw3]; exact (Below.refl _ _).alloc (Nat.le_refl _) _
      have hr3 : w3.heap[w2.heap.size]? = some (.cells (cN (limbs X)) 74 (0, 0)) := by rw [hw3]; exact Rg.heap_alloc_at _ _ _ rfl
      have HB3 := Lib.hid (HB2.out.trans (hb3.mono HB2.out.size))
      have c0 := cell_limb hr3 0 (by decide)
      have c1 := cell_limb hr3 1 (by decide)
      obtain ⟨tk, fk, hkr⟩ := (HT.out.below HB3.out).k
      have ck := cell_KK hkr k hlt
      have hsum : Sha.KKn.getD k 0 = lb X 0 + lb X 1 * 65536 := by
        obtain ⟨h1, h2, h3, h4⟩ := HN.out
        rw [two_limbs, HX.out, ← keys_right n h1 h2 h3, h4]
        rfl
      have hl0 := lb_lt X 0
      have hl1 := lb_lt X 1
      have HW3 := Lib.hid hw3
      obtain ⟨xb, hxb⟩ : ∃ xb, xb = w2.heap.size := ⟨_, rfl⟩
      rw [← hxb] at c0 c1
      have HXB := Lib.hid hxb
      generalize Sha.KKn.getD k 0 = kv at ck hsum
      generalize lb X 0 = x0 at c0 hsum hl0
      generalize lb X 1 = x1 at c1 hsum hl1
      have hne : ((kv : Int) != (x0 : Int) + (x1 : Int) * 65536) = false := by rw [bne_eq_false_iff_eq]; omega
      clear hsum hr3 hkr hb3 hw3 hxb
      go_wp2_with (refine Rg.store_row_new rfl 74 _ _ rfl w2.heap.size rfl rfl 74 _ (cN (limbs X)) rfl HIX.out (by rw [cN_size, limbs_length]; rfl) (cN_one _) ?_)
      rw [← HW3.out, ← HXB.out]
      refine Rg.whole (fun w' => ∃ n, w' = (w3).drewN n) (by kernel_rfl) (by kernel_rfl) ⟨0 + 1, rfl⟩ ?_
      repeat (refine Rg.stepK rfl ?_; intro K hK; apply Exists.intro; refine ⟨?_, ?_⟩; (focus (intro w' hw'; obtain ⟨nq, rfl⟩ := hw'; go_simp; (first | (fail) | ((try go_bits); (try go_simp); (try rfl))))); go_simp; refine hK _ ?_; clear hK K)
      refine wpQuiet_nil ?_; intro w' hw'; obtain ⟨nq, rfl⟩ := hw'
      go_wp2_with fail
      exact ⟨⟨k + 1, by omega, by go_num, Rg.below_drewN HB3.out _⟩, by simp [intOf]; omega⟩
    · obtain rfl : k = 64 := by omega
      rw [show ((64 : Nat) : Int) = 64 from rfl]
      go_wp2_with fail
      go_loopw [3] (fun i wr => ∃ k : Nat, k ≤ 8 ∧ i = .int .i64 k ∧ Below w.heap.size w wr) (fun i _ => 8 - (intOf i).toNat)
      case atStart => exact ⟨0, by omega, rfl, HB.out⟩
      case round =>
        obtain ⟨k, hk, rfl, hb⟩ := hrel
        have HB := Lib.hid hb
        clear hb
        by_cases hlt : k < 8
        · have hkI : (k : Int) < 8 := by omega
          go_wp2_with fail
          refine (prime_any k wr (by omega)).mono ?_
          rintro e w1 ⟨⟨n, rfl, hn1, hn2, hn3, hn4⟩, hw1⟩
          subst hw1
          have HN := Lib.hid (And.intro hn1 (And.intro hn2 (And.intro hn3 hn4)))
          clear hn2 hn3 hn4
          go_wp2_with fail
          refine (root_any n false w1 hn1).mono ?_
          rintro e w2 ⟨rfl, hb2⟩
          obtain ⟨X, hX⟩ : ∃ X, X = rts false n 38 := ⟨_, rfl⟩
          rw [← hX]
          have HIX := Lib.hid (infoLimbs X)
          have HX := Lib.hid hX
          have HB2 := Lib.hid (HB.out.trans (hb2.mono HB.out.size))
          clear hb2 hX hn1
          obtain ⟨w3, hw3⟩ : ∃ w3, w3 = w2.alloc (.cells (cN (limbs X)) 74) := ⟨_, rfl⟩
          have hb3 : Below w2.heap.size w2 w3 := by rw [hw3]; exact (Below.refl _ _).alloc (Nat.le_refl _) _
          have hr3 : w3.heap[w2.heap.size]? = some (.cells (cN (limbs X)) 74 (0, 0)) := by rw [hw3]; exact Rg.heap_alloc_at _ _ _ rfl
          have HB3 := Lib.hid (HB2.out.trans (hb3.mono HB2.out.size))
          have c0 := cell_limb hr3 0 (by decide)
          have c1 := cell_limb hr3 1 (by decide)
          obtain ⟨tk, fk, hkr⟩ := (HT.out.below HB3.out).h
          have ck := cell_HH hkr k hlt
          have hsum : Sha.HHn.getD k 0 = lb X 0 + lb X 1 * 65536 := by
            obtain ⟨h1, h2, h3, h4⟩ := HN.out
            rw [two_limbs, HX.out, ← heads_right n h1 h2 h3 (by omega), h4]
            rfl
          have hl0 := lb_lt X 0
          have hl1 := lb_lt X 1
          have HW3 := Lib.hid hw3
          obtain ⟨xb, hxb⟩ : ∃ xb, xb = w2.heap.size := ⟨_, rfl⟩
          rw [← hxb] at c0 c1
          have HXB := Lib.hid hxb
          generalize Sha.HHn.getD k 0 = kv at ck hsum
          generalize lb X 0 = x0 at c0 hsum hl0
          generalize lb X 1 = x1 at c1 hsum hl1
          have hne : ((kv : Int) != (x0 : Int) + (x1 : Int) * 65536) = false := by rw [bne_eq_false_iff_eq]; omega
          clear hsum hr3 hkr hb3 hw3 hxb
          go_wp2_with (refine Rg.store_row_new rfl 74 _ _ rfl w2.heap.size rfl rfl 74 _ (cN (limbs X)) rfl HIX.out (by rw [cN_size, limbs_length]; rfl) (cN_one _) ?_)
          rw [← HW3.out, ← HXB.out]
          refine Rg.whole (fun w' => ∃ n, w' = (w3).drewN n) (by kernel_rfl) (by kernel_rfl) ⟨0 + 1, rfl⟩ ?_
          repeat (refine Rg.stepK rfl ?_; intro K hK; apply Exists.intro; refine ⟨?_, ?_⟩; (focus (intro w' hw'; obtain ⟨nq, rfl⟩ := hw'; go_simp; (first | (fail) | ((try go_bits); (try go_simp); (try rfl))))); go_simp; refine hK _ ?_; clear hK K)
          refine wpQuiet_nil ?_; intro w' hw'; obtain ⟨nq, rfl⟩ := hw'
          go_wp2_with fail
          exact ⟨⟨k + 1, by omega, by go_num, Rg.below_drewN HB3.out _⟩, by simp [intOf]; omega⟩
        · obtain rfl : k = 8 := by omega
          rw [show ((8 : Nat) : Int) = 8 from rfl]
          go_wp2_with fail
          go_ret
          exact ⟨rfl, HB.out⟩
end Ref
end Go.Proofs.YtmcjjionfmdioaaDoor

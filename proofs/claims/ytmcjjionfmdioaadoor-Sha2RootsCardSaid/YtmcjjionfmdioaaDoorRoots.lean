/- The walk of custumalref01's Times, Less and Prime. -/
import Derived.Test.YtmcjjionfmdioaaDoorRootsP
import Derived.Test.YtmcjjionfmdioaaDoorRefA
import Derived.Test.YtmcjjionfmdioaaDoorMem
namespace Go.Proofs.YtmcjjionfmdioaaDoor
open Go.RowKit Bits Mem Roots
namespace Ref
/-- Numbers as ints. -/
def cN (l : List Nat) : Array Value := (l.map fun (x : Nat) => Value.int .i64 (x : Int)).toArray
theorem cN_get (l : List Nat) (j x : Nat) (h : l[j]? = some x) : (cN l)[j]? = some (.int .i64 (x : Int)) := by simp [cN, h]
theorem cN_set (l : List Nat) (j x : Nat) : (cN l).setIfInBounds j (.int .i64 (x : Int)) = cN (l.set j x) := by simp [cN, List.map_set]
theorem cN_size (l : List Nat) : (cN l).size = l.length := by simp [cN]
theorem cN_one (l : List Nat) : (cN l).all (·.oneCell') = true := by
  rw [Array.all_eq_true_iff_forall_mem]; intro v hv; simp [cN] at hv; obtain ⟨x, _, rfl⟩ := hv; rfl
theorem infoBig : (Tryd.prog.info? 74).map (·.size) = some 28 := by kernel_rfl
theorem infoLimbs (x : Nat) : (Tryd.prog.info? 74).map (·.size) = some (cN (limbs x)).size := by rw [cN_size, limbs_length]; exact infoBig
def z28 : Array Value := cN (List.replicate 28 0)
theorem z28_size : z28.size = 28 := by simp [z28, cN_size]
theorem mask16 (s : Nat) (h : s < 9223372036854775808) : bits .and .i64 (s : Int) (65535 : Int) = ((s % 65536 : Nat) : Int) := by
  have := i64_and s 65535 h (by omega)
  rw [show ((65535 : Nat) : Int) = (65535 : Int) from rfl] at this
  rw [this, show (65535 : Nat) = 2 ^ 16 - 1 from rfl, Nat.and_two_pow_sub_one_eq_mod]
set_option maxRecDepth 100000 in
set_option maxHeartbeats 4000000 in
theorem times_any (A B : Nat) (w : World) (hA : A < 65536 ^ 28) :
    Calls Tryd.prog 54 #[.agg (cN (limbs A)), .agg (cN (limbs B))] w fun e w' => e = .returned (.agg (cN (limbs (A * B)))) ∧ Below w.heap.size w w' := by
  have HA := Lib.hid hA
  clear hA
  go_enter Tryd.func54, Tryd.ntmps54
  go_wp2
  go_loopw [6] (fun i wr => ∃ k : Nat, k ≤ 28 ∧ i = .int .i64 k ∧ ∃ n, wr = ((((w.alloc (.cells (cN (limbs A)) 74)).alloc (.cells (cN (limbs B)) 74)).alloc (.cells z28 74)).alloc (.cells (cN (limbs (A % 65536 ^ k * B))) 74)).drewN n) (fun i _ => 28 - (intOf i).toNat)
  case atStart => exact ⟨0, by omega, rfl, 0, by rw [times_first]; rfl⟩
  case round =>
    obtain ⟨i, hi, rfl, n, rfl⟩ := hrel
    by_cases hlt : i < 28
    · have hI : (i : Int) < 28 := by omega
      obtain ⟨C, hC⟩ : ∃ C, C = A % 65536 ^ i * B := ⟨_, rfl⟩
      rw [← hC]
      obtain ⟨a, ha⟩ : ∃ a, a = lb A i := ⟨_, rfl⟩
      have hag := cN_get (limbs A) i a (by rw [ha]; exact limbs_get A i hlt)
      have hal : a < 65536 := by rw [ha]; exact lb_lt _ _
      have HAE := Lib.hid ha
      have HCE := Lib.hid hC
      clear ha hC
      go_wp2
      go_loopw [7, 8] (fun o j wr => ∃ k : Nat, i + k ≤ 28 ∧ j = .int .i64 k ∧ o = .int .i64 (ov C a i B k : Nat) ∧ ∃ n, wr = ((((w.alloc (.cells (cN (limbs A)) 74)).alloc (.cells (cN (limbs B)) 74)).alloc (.cells z28 74)).alloc (.cells (cN (cl C a i B k)) 74)).drewN n) (fun _ j _ => 28 - (intOf j).toNat)
      case atStart => exact ⟨0, by omega, rfl, by rw [ov_zero]; rfl, n, by rw [cl_zero]⟩
      case round =>
        obtain ⟨k, hk, rfl, rfl, n, rfl⟩ := hrel
        by_cases hkl : i + k < 28
        · have hK : (i : Int) + (k : Int) < 28 := by omega
          have hK2 : (k : Int) < 28 := by omega
          have hT : ((i : Int) + (k : Int)).toNat = i + k := by omega
          have h0 : (0 : Int) ≤ (i : Int) + (k : Int) := by omega
          have hbg := cN_get (limbs B) k (lb B k) (limbs_get B k (by omega))
          have hcg := cN_get (cl C a i B k) (i + k) (lb C (i + k)) (by rw [cl_get _ _ _ _ _ _ hkl, if_neg (Nat.lt_irrefl _)])
          have hbl := lb_lt B k
          have hcl := lb_lt C (i + k)
          have hol := ov_lt C a i B k hal
          have hsl := su_lt C a i B k hal hol
          have hs : su C a i B k = lb C (i + k) + a * lb B k + ov C a i B k := rfl
          have HSET := Lib.hid (cl_succ C a i B k hkl)
          have HOV := Lib.hid (ov_step C a i B k)
          obtain ⟨S, hS⟩ : ∃ S, S = su C a i B k := ⟨_, rfl⟩
          rw [← hS] at hsl hs HSET HOV
          generalize lb C (i + k) = c at *
          generalize lb B k = b at *
          generalize ov C a i B k = o at *
          obtain ⟨M, hM⟩ : ∃ M, M = a * b := ⟨_, rfl⟩
          rw [← hM] at hs
          have hM2 : M ≤ S := by omega
          have e1 : (a : Int) * (b : Int) = (M : Int) := by rw [hM]; simp
          have e2 : (c : Int) + (M : Int) + (o : Int) = (S : Int) := by omega
          have e3 := mask16 S (by omega)
          have hR : S / 65536 < 65536 := by omega
          clear hM hs hS
          go_wp2
          refine Rg.tail (fun w' => ∃ n, w' = ((((w.alloc (.cells (cN (limbs A)) 74)).alloc (.cells (cN (limbs B)) 74)).alloc (.cells z28 74)).alloc (.cells (cN (cl C a i B k)) 74)).drewN n) 15 (by kernel_rfl) (by kernel_rfl) ⟨n + 1, rfl⟩ ?_; simp only [List.take_succ_cons, List.take_zero, List.drop_succ_cons, List.drop_zero]
          repeat (refine Rg.stepK rfl ?_; intro K hK; apply Exists.intro; refine ⟨?_, ?_⟩; (focus (intro w' hw'; obtain ⟨nq, rfl⟩ := hw'; go_simp; (first | (fail) | ((try go_bits); (try go_simp); (try rfl))))); go_simp; refine hK _ ?_; clear hK K)
          refine wpQuiet_nil ?_; intro w' hw'; obtain ⟨nq, rfl⟩ := hw'
          go_wp2
          refine ⟨⟨k + 1, by omega, by go_num, by rw [HOV.out, Int.natCast_ediv]; rfl, nq, by rw [← HSET.out, ← cN_set, Int.natCast_emod]; rfl⟩, by simp [intOf]; omega⟩
        · obtain rfl : k = 28 - i := by omega
          have hK : ¬ (i : Int) + ((28 - i : Nat) : Int) < 28 := by omega
          have HL : Hid (cl C a i B (28 - i) = limbs (A % 65536 ^ (i + 1) * B)) := Lib.hid (by rw [HCE.out, HAE.out]; exact cl_last A B i hlt)
          rw [HL.out]
          go_wp2
          exact ⟨⟨i + 1, by omega, rfl, n, rfl⟩, by simp [intOf]; omega⟩
    · obtain rfl : i = 28 := by omega
      have HE : Hid (limbs (A % 65536 ^ 28 * B) = limbs (A * B)) := Lib.hid (times_last A B HA.out)
      rw [HE.out, show ((28 : Nat) : Int) = 28 from rfl]
      obtain ⟨R, hR⟩ : ∃ R, R = cN (limbs (A * B)) := ⟨_, rfl⟩
      have HIM : Hid ((Tryd.prog.info? 74).map (·.size) = some R.size) := Lib.hid (by rw [hR]; exact infoLimbs _)
      have HSZ : Hid (z28.size = R.size) := Lib.hid (by rw [hR, cN_size, limbs_length]; rfl)
      have HON : Hid (R.all (·.oneCell') = true) := Lib.hid (by rw [hR]; exact cN_one _)
      have HRE := Lib.hid hR
      rw [← hR]
      clear hR
      go_wp2_with (first | (refine wpList_load_row rfl 74 _ rfl (w.heap.size + 1 + 1 + 1) rfl 74 R (0, 0) _ (by exact Rg.heap_alloc_at _ _ _ (by simp)) Tryd.underlying74 rfl HIM.out ?_) | (refine Rg.store_row rfl 74 _ _ rfl (w.heap.size + 1 + 1) rfl 74 z28 R rfl (by exact (Rg.heap_alloc_past _ _ _ (by simp)).trans (Rg.heap_alloc_at _ _ _ (by simp))) HIM.out HSZ.out HON.out ?_))
      refine bodyPost_ret (v := .agg R) (results_cell_row (P := Tryd.prog) rfl _ _ (w.heap.size + 1 + 1) 74 R (0, 0) _ rfl (setRow_heap _ _ z28 _ 74 _ ((Rg.heap_alloc_past _ _ _ (by simp)).trans (Rg.heap_alloc_at _ _ _ (by simp)))) Tryd.underlying74 rfl HIM.out) rfl ⟨by rw [HRE.out], ?_⟩
      exact Rg.below_setRow (Rg.below_drewN (((((Below.refl _ _).alloc (Nat.le_refl _) _).alloc (by simp) _).alloc (by simp; omega) _).alloc (by simp; omega) _) _) (by omega) _
set_option maxRecDepth 100000 in
set_option maxHeartbeats 4000000 in
theorem less_any (A B : Nat) (w : World) (hA : A < 65536 ^ 28) (hB : B < 65536 ^ 28) :
    Calls Tryd.prog 55 #[.agg (cN (limbs A)), .agg (cN (limbs B))] w fun e w' => e = .returned (.bool (decide (A < B))) ∧ Below w.heap.size w w' := by
  have h0 : A / 65536 ^ 28 = B / 65536 ^ 28 := by rw [Nat.div_eq_of_lt hA, Nat.div_eq_of_lt hB]
  have H0 := Lib.hid h0
  clear h0 hA hB
  go_enter Tryd.func55, Tryd.ntmps55
  go_wp2
  go_loopw [5] (fun i wr => ∃ m : Nat, m ≤ 28 ∧ i = .int .i64 ((m : Int) - 1) ∧ Hid (A / 65536 ^ m = B / 65536 ^ m) ∧ ∃ n, wr = ((w.alloc (.cells (cN (limbs A)) 74)).alloc (.cells (cN (limbs B)) 74)).drewN n) (fun i _ => (intOf i + 1).toNat)
  case atStart => exact ⟨28, by omega, rfl, H0, 0, rfl⟩
  case round =>
    obtain ⟨m, hm, rfl, HM, n, rfl⟩ := hrel
    by_cases hz : m = 0
    · subst hz
      rw [show ((0 : Nat) : Int) - 1 = -1 from rfl]
      go_wp2
      go_ret
      have h1 := HM.out
      rw [Nat.pow_zero, Nat.div_one, Nat.div_one] at h1
      exact ⟨by rw [h1]; simp, Rg.below_drewN (((Below.refl _ _).alloc (Nat.le_refl _) _).alloc (by simp) _) _⟩
    · obtain ⟨j, rfl⟩ : ∃ j, m = j + 1 := ⟨m - 1, by omega⟩
      rw [show ((j + 1 : Nat) : Int) - 1 = (j : Int) by omega]
      have hj : (j : Int) < 28 := by omega
      have hag := cN_get (limbs A) j (lb A j) (limbs_get A j (by omega))
      have hbg := cN_get (limbs B) j (lb B j) (limbs_get B j (by omega))
      by_cases he : lb A j = lb B j
      · have HN := Lib.hid (div_eq_of A B j HM.out he)
        have hne : ((lb A j : Int) != (lb B j : Int)) = false := by rw [he]; simp
        clear he
        generalize lb A j = x at *
        generalize lb B j = y at *
        go_wp2
        refine Rg.whole (fun w' => ∃ n, w' = ((w.alloc (.cells (cN (limbs A)) 74)).alloc (.cells (cN (limbs B)) 74)).drewN n) (by kernel_rfl) (by kernel_rfl) ⟨n + 1, rfl⟩ ?_
        repeat (refine Rg.stepK rfl ?_; intro K hK; apply Exists.intro; refine ⟨?_, ?_⟩; (focus (intro w' hw'; obtain ⟨nq, rfl⟩ := hw'; go_simp; (first | (fail) | ((try go_bits); (try go_simp); (try rfl))))); go_simp; refine hK _ ?_; clear hK K)
        refine wpQuiet_nil ?_; intro w' hw'; obtain ⟨nq, rfl⟩ := hw'
        go_wp2
        refine ⟨⟨j, by omega, rfl, HN, nq, rfl⟩, by simp [intOf]⟩
      · have HN := Lib.hid (lt_of_lb A B j HM.out he)
        have hne : ((lb A j : Int) != (lb B j : Int)) = true := by rw [bne_iff_ne]; omega
        clear he
        generalize lb A j = x at *
        generalize lb B j = y at *
        go_wp2
        refine Rg.whole (fun w' => ∃ n, w' = ((w.alloc (.cells (cN (limbs A)) 74)).alloc (.cells (cN (limbs B)) 74)).drewN n) (by kernel_rfl) (by kernel_rfl) ⟨n + 1, rfl⟩ ?_
        repeat (refine Rg.stepK rfl ?_; intro K hK; apply Exists.intro; refine ⟨?_, ?_⟩; (focus (intro w' hw'; obtain ⟨nq, rfl⟩ := hw'; go_simp; (first | (fail) | ((try go_bits); (try go_simp); (try rfl))))); go_simp; refine hK _ ?_; clear hK K)
        refine wpQuiet_nil ?_; intro w' hw'; obtain ⟨nq, rfl⟩ := hw'
        go_wp2
        obtain ⟨n2, hn2⟩ : ∃ n2, n2 = nq := ⟨_, rfl⟩
        rw [← hn2]
        clear hn2
        refine Rg.whole (fun w' => ∃ n, w' = ((w.alloc (.cells (cN (limbs A)) 74)).alloc (.cells (cN (limbs B)) 74)).drewN n) (by kernel_rfl) (by kernel_rfl) ⟨n2 + 1, rfl⟩ ?_
        repeat (refine Rg.stepK rfl ?_; intro K hK; apply Exists.intro; refine ⟨?_, ?_⟩; (focus (intro w' hw'; obtain ⟨nq, rfl⟩ := hw'; go_simp; (first | (fail) | ((try go_bits); (try go_simp); (try rfl))))); go_simp; refine hK _ ?_; clear hK K)
        refine wpQuiet_nil ?_; intro w' hw'; obtain ⟨nq, rfl⟩ := hw'
        go_wp2
        go_ret
        exact ⟨by rw [show decide (A < B) = decide (x < y) from decide_eq_decide.2 (iff_of_eq HN.out)]; rfl, Rg.below_drewN (((Below.refl _ _).alloc (Nat.le_refl _) _).alloc (by simp) _) _⟩
set_option maxRecDepth 100000 in
set_option maxHeartbeats 4000000 in
theorem prime_any (i : Nat) (w : World) (hi : i < 64) :
    Calls Tryd.prog 49 #[.int .i64 i] w fun e w' => (∃ n : Nat, e = .returned (.int .i64 n) ∧ n < 312 ∧ 2 ≤ n ∧ isP n = true ∧ cnt n = i + 1) ∧ w' = w := by
  go_enter Tryd.func49, Tryd.ntmps49
  go_wp2
  go_loopw [0, 3] (fun a b wr => ∃ n : Nat, 1 ≤ n ∧ b = .int .i64 n ∧ a = .int .i64 ((i : Int) - (cnt n : Int)) ∧ cnt n ≤ i + 1 ∧ (cnt n = i + 1 → isP n = true ∧ 2 ≤ n ∧ n < 312) ∧ wr = w) (fun _ b _ => 312 - (intOf b).toNat)
  case atStart => exact ⟨1, by omega, rfl, by rw [show cnt 1 = 0 from rfl]; simp, by rw [show cnt 1 = 0 from rfl]; omega, fun h => by rw [show cnt 1 = 0 from rfl] at h; omega, rfl⟩
  case round =>
    obtain ⟨n, hn1, rfl, rfl, hc, hlast, rfl⟩ := hrel
    by_cases hz : cnt n = i + 1
    · rw [hz, show (i : Int) - ((i + 1 : Nat) : Int) = -1 by omega]
      obtain ⟨h1, h2, h3⟩ := hlast hz
      have HF := Lib.hid (And.intro h2 (And.intro h1 hz))
      clear hz hlast h1
      go_wp2
      go_ret
      exact ⟨⟨n, rfl, h3, HF.out⟩, rfl⟩
    · have hn := cnt_lt n (by omega)
      obtain ⟨D, hD⟩ : ∃ D : Nat, (i : Int) - (cnt n : Int) = (D : Int) := ⟨i - cnt n, by omega⟩
      rw [hD]
      have hDl : D < 64 := by omega
      have HD := Lib.hid hD
      have HZ := Lib.hid hz
      have HC := Lib.hid hc
      obtain ⟨N, hN⟩ : ∃ N, N = n + 1 := ⟨_, rfl⟩
      have hNe : (n : Int) + 1 = (N : Int) := by omega
      have hNl : N ≤ 311 := by omega
      have hN2 : 2 ≤ N := by omega
      have HNE := Lib.hid hN
      clear hz hlast hc hD hN
      go_wp2
      go_loopw [4, 5] (fun b k wi => ∃ m : Nat, 2 ≤ m ∧ m ≤ 18 ∧ Hid (m = 2 ∨ (m - 1) * (m - 1) ≤ N) ∧ k = .int .i64 m ∧ b = .bool (wh N m) ∧ wi = wr) (fun _ k _ => 20 - (intOf k).toNat)
      case atStart => exact ⟨2, by omega, by omega, Lib.hid (.inl rfl), rfl, by rw [wh_two], rfl⟩
      case round =>
        obtain ⟨m, hm2, hm18, HMM, rfl, rfl, hwi⟩ := hrel
        subst hwi
        obtain ⟨M, hM⟩ : ∃ M, M = m * m := ⟨_, rfl⟩
        have hM2 : M ≤ 324 := by rw [hM]; exact Nat.mul_le_mul hm18 hm18
        have e1 : (m : Int) * (m : Int) = (M : Int) := by rw [hM]; simp
        by_cases hle : M ≤ N
        · have hleI : (M : Int) ≤ (N : Int) := by omega
          have h17 : m ≤ 17 := by
            refine Nat.le_of_not_lt fun h => ?_
            have := Nat.mul_le_mul (show 18 ≤ m from h) (show 18 ≤ m from h)
            omega
          have HW := Lib.hid (wh_succ N m hm2)
          have HM1 : Hid (m + 1 = 2 ∨ (m + 1 - 1) * (m + 1 - 1) ≤ N) := Lib.hid (.inr (by rw [Nat.add_sub_cancel, ← hM]; exact hle))
          clear hM hle
          by_cases hw : wh N m = true
          · rw [hw] at HW ⊢
            clear hw
            by_cases hd : N % m = 0
            · have hdI : ((N : Int) % (m : Int) != 0) = false := by rw [bne_eq_false_iff_eq]; omega
              have HW2 : Hid (wh N (m + 1) = false) := Lib.hid (by rw [HW.out, hd]; rfl)
              clear hd HW
              go_wp2
              refine ⟨⟨m + 1, by omega, by omega, HM1, by go_num, by rw [HW2.out], trivial⟩, by simp [intOf]; omega⟩
            · have hdI : ((N : Int) % (m : Int) != 0) = true := by rw [bne_iff_ne]; omega
              have HW2 : Hid (wh N (m + 1) = true) := Lib.hid (by rw [HW.out]; simp [hd])
              clear hd HW
              go_wp2
              refine ⟨⟨m + 1, by omega, by omega, HM1, by go_num, by rw [HW2.out], trivial⟩, by simp [intOf]; omega⟩
          · rw [Bool.not_eq_true] at hw
            rw [hw] at HW ⊢
            have HW2 : Hid (wh N (m + 1) = false) := Lib.hid (by rw [HW.out]; rfl)
            clear hw HW
            go_wp2
            refine ⟨⟨m + 1, by omega, by omega, HM1, by go_num, by rw [HW2.out], trivial⟩, by simp [intOf]; omega⟩
        · have hleI : ¬ (M : Int) ≤ (N : Int) := by omega
          have HP := Lib.hid (wh_isP N m hNl HMM.out (by rw [← hM]; omega) hm2)
          clear hM hle
          by_cases hw : isP N = true
          · rw [hw] at HP
            rw [HP.out]
            have HQ := Lib.hid hw
            clear hw
            go_wp2
            have hc : cnt N = cnt n + 1 := by
              rw [HNE.out]
              show cnt n + (if 2 ≤ n + 1 ∧ isP (n + 1) = true then 1 else 0) = _
              rw [if_pos ⟨by omega, by rw [← HNE.out]; exact HQ.out⟩]
            have h1 := HD.out
            have h2 := HC.out
            have h3 := HZ.out
            refine ⟨⟨N, by omega, rfl, by rw [show (D : Int) - 1 = (i : Int) - (cnt N : Int) by omega], by omega, fun _ => ⟨HQ.out, hN2, by omega⟩, trivial⟩, by simp [intOf]; have := HNE.out; omega⟩
          · rw [Bool.not_eq_true] at hw
            rw [hw] at HP
            rw [HP.out]
            have HQ := Lib.hid hw
            clear hw
            go_wp2
            have hc : cnt N = cnt n := by
              rw [HNE.out]
              show cnt n + (if 2 ≤ n + 1 ∧ isP (n + 1) = true then 1 else 0) = _
              rw [if_neg (fun h => by have := h.2; rw [← HNE.out, HQ.out] at this; cases this)]
              rfl
            have h1 := HD.out
            have h2 := HC.out
            have h3 := HZ.out
            refine ⟨⟨N, by omega, rfl, by rw [show (D : Int) = (i : Int) - (cnt N : Int) by omega], by omega, fun h => by omega, trivial⟩, by simp [intOf]; have := HNE.out; omega⟩
end Ref
end Go.Proofs.YtmcjjionfmdioaaDoor

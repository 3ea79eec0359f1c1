/- The walk of CadenceCounts. -/
import Derived.Test.YtmkoiddfkanmiaaCadH
namespace Go.Proofs.Ytmkoiddfkanmiaa
open Go.RowKit Bits Mem Sha
namespace Cad
theorem modcad (n : Int) (m : Nat) (hm : 0 < m) (hb : m < 9223372036854775808) : ∃ j : Nat, j < m ∧ (IntKind.u64.wrap n).tmod (m : Int) = (j : Int) ∧ wrap64 ((IntKind.u64.wrap n).tmod (m : Int)) = (j : Int) := by
  have h1 : 0 ≤ IntKind.u64.wrap n := by rw [IntKind.wrap_u64]; omega
  have h2 : (IntKind.u64.wrap n).tmod (m : Int) = IntKind.u64.wrap n % (m : Int) := Int.tmod_eq_emod_of_nonneg h1
  have h3 : 0 ≤ IntKind.u64.wrap n % (m : Int) := Int.emod_nonneg _ (by omega)
  have h4 : IntKind.u64.wrap n % (m : Int) < (m : Int) := Int.emod_lt_of_pos _ (by omega)
  refine ⟨(IntKind.u64.wrap n % (m : Int)).toNat, by omega, by rw [h2]; omega, ?_⟩
  rw [h2]
  unfold wrap64
  omega
theorem step_due (x p : Int) (_ : 0 ≤ x) (hp : 1 ≤ p) : (p - x % p = 1 ∧ (x + 1) % p = 0 ∧ (x + 1) / p = x / p + 1) ∨ (¬ p - x % p = 1 ∧ ¬ (x + 1) % p = 0 ∧ (x + 1) / p = x / p) := by
  have h1 : 0 ≤ x % p := Int.emod_nonneg _ (by omega)
  have h2 : x % p < p := Int.emod_lt_of_pos _ (by omega)
  have h3 : x % p + p * (x / p) = x := Int.emod_add_mul_ediv x p
  by_cases h : x % p + 1 < p
  · have := (Int.ediv_emod_unique (a := x + 1) (b := p) (r := x % p + 1) (q := x / p) (by omega)).2 ⟨by omega, by omega, h⟩
    exact .inr ⟨by omega, by omega, this.1⟩
  · have := (Int.ediv_emod_unique (a := x + 1) (b := p) (r := 0) (q := x / p + 1) (by omega)).2 ⟨by rw [Int.mul_add]; omega, by omega, by omega⟩
    exact .inl ⟨by omega, this.2, this.1⟩
theorem due_one (id : List UInt8) (p x : Int) (hx : 0 ≤ x) (hx2 : x ≤ 1000000) : isDue ⟨id, p, x⟩ = ((x + 1) % p == 0) ∧ tick1 ⟨id, p, x⟩ = ⟨id, p, x + 1⟩ := by
  have h : tick1 ⟨id, p, x⟩ = ⟨id, p, x + 1⟩ := by unfold tick1; rw [if_pos (by show x < _; omega)]
  refine ⟨?_, h⟩
  unfold isDue
  rw [h]
  show ((x + 1).tmod p == 0) = _
  rw [Int.tmod_eq_emod_of_nonneg (by omega)]
theorem duesOne_length (x : One) : (dues [x]).length = if isDue x then 1 else 0 := by
  unfold dues
  cases h : isDue x <;> simp [h]
set_option maxRecDepth 100000 in
set_option maxHeartbeats 4000000 in
theorem counts_any (d1 d2 d3 : Int) (w : World) : Calls Try.prog 3 #[.int .i64 d1, .int .i64 d2, .int .i64 d3] w fun e w' => e = .returned (.bool true) ∧ Below w.heap.size w w' := by
  obtain ⟨j, hj, _, ej⟩ := modcad d1 20 (by decide) (by decide)
  obtain ⟨a, ha, _, ea⟩ := modcad d2 1000 (by decide) (by decide)
  obtain ⟨T, hT, _, eT⟩ := modcad d3 100 (by decide) (by decide)
  have ej' : wrap64 ((IntKind.u64.wrap d1).tmod 20) = (j : Int) := ej
  have ea' : wrap64 ((IntKind.u64.wrap d2).tmod 1000) = (a : Int) := ea
  have eT' : wrap64 ((IntKind.u64.wrap d3).tmod 100) = (T : Int) := eT
  obtain ⟨p, hp⟩ : ∃ p : Int, p = 1 + (j : Int) := ⟨_, rfl⟩
  have hp' := hp.symm
  have hp1 : 1 ≤ p := by omega
  have hp2 : p ≤ 1000 := by omega
  have HPJ := Lib.hid hp
  clear hp ej ea eT
  have h1 : SchedAt (w.alloc (.cells #[.int .i64 (0 : Nat), .slice none 0 0] 53)) w.heap.size (w.heap.size + 1) none 0 0 [] := ⟨heap_alloc_new w _, Nat.lt_succ_self _, Ow.nil _ _ _ _⟩
  have hb1 : Below w.heap.size w (w.alloc (.cells #[.int .i64 (0 : Nat), .slice none 0 0] 53)) := (Below.refl _ _).alloc (Nat.le_refl _) _
  obtain ⟨w1, hw1⟩ : ∃ w1, w1 = w.alloc (.cells #[.int .i64 (0 : Nat), .slice none 0 0] 53) := ⟨_, rfl⟩
  rw [← hw1] at h1 hb1
  have HW1 := Lib.hid hw1
  have H1 := Lib.hid h1
  have HB1 := Lib.hid hb1
  clear h1 hb1 hw1
  go_enter Try.func3, Try.ntmps3
  go_wp2_with fail
  refine (newCad_any 0 w).mono ?_
  rintro e w1' ⟨rfl, hw⟩
  obtain rfl : w1' = w1 := hw.trans HW1.out.symm
  clear hw
  go_wp2_with fail
  refine (add_nil w.heap.size (w.heap.size + 1) 0 p a [120] w1' H1.out hp1 hp2 (by omega) (by omega)).mono ?_
  rintro e w2 ⟨q, c, rfl, hs2, hk2⟩
  have HS2 := Lib.hid hs2
  have HB2 := Lib.hid (HB1.out.trans (hk2.below HB1.out.size (fun k hk => by rw [hk]; exact Nat.le_refl _)))
  clear hs2 hk2
  go_wp2_with fail
  refine (beatsCad_any w2).mono ?_
  rintro e w3 ⟨rfl, hb3⟩
  have HS3 := Lib.hid (HS2.out.below hb3)
  have HB3 := Lib.hid (HB2.out.trans (hb3.mono HB2.out.size))
  clear hb3
  go_wp2_with fail
  go_loopw [10, 11] (fun mv iv wr => ∃ (t : Nat) (m : Int), t ≤ T ∧ iv = .int .i64 t ∧ mv = .int .i64 m ∧ 0 ≤ m ∧ m ≤ t ∧ Hid (m = ((a : Int) + t) / p - (a : Int) / p) ∧ Hid (SchedAt wr w.heap.size (w.heap.size + 1) q c t [⟨[120], p, (a : Int) + t⟩]) ∧ Hid (Below w.heap.size w wr)) (fun _ iv _ => T - (intOf iv).toNat)
  case atStart => exact ⟨0, 0, Nat.zero_le _, rfl, rfl, by omega, by omega, Lib.hid (by simp), Lib.hid (by simpa using HS3.out), HB3⟩
  case round =>
    obtain ⟨t, m, ht, rfl, rfl, hm0, hm1, HM, HS, HB⟩ := hrel
    by_cases hlt : t < T
    · have hltI : (t : Int) < (T : Int) := by omega
      obtain ⟨x, hx⟩ : ∃ x : Int, x = (a : Int) + t := ⟨_, rfl⟩
      have hx0 : 0 ≤ x := by omega
      have hx1 : x ≤ 100000 := by omega
      have HS' : Hid (SchedAt wr w.heap.size (w.heap.size + 1) q c t [⟨[120], p, x⟩]) := Lib.hid (by rw [hx]; exact HS.out)
      obtain ⟨du, tk⟩ := due_one [120] p x hx0 (by omega)
      have dl := duesOne_length ⟨[120], p, x⟩
      have HN := Lib.hid (next_one w.heap.size (w.heap.size + 1) q c t ⟨[120], p, x⟩ wr HS'.out (by show cmpB [120] [120] = 0; decide) hp1 hp2 hx0 (by show x ≤ 1000000; omega) (by omega) (by omega))
      have hxe : (a : Int) + ((t + 1 : Nat) : Int) = x + 1 := by omega
      have HX := Lib.hid hx
      have HXE := Lib.hid hxe
      have h1e : x % p < p := Int.emod_lt_of_pos _ (by omega)
      have h0e : 0 ≤ x % p := Int.emod_nonneg _ (by omega)
      obtain ⟨N, hN⟩ : ∃ N : Int, N = t + (p - x % p) := ⟨_, rfl⟩
      have hNb : 0 ≤ N ∧ N ≤ 10000 := by omega
      have hN0 := hNb.1
      have hN1 := hNb.2
      have HNE := Lib.hid hN
      have HSD := Lib.hid (step_due x p hx0 hp1)
      have HDU := Lib.hid du
      have HTK := Lib.hid tk
      have HDL := Lib.hid dl
      clear hx hxe hN du tk dl hNb HS h1e h0e
      go_wp2_with fail
      refine HN.out.mono ?_
      rintro e w4 ⟨rfl, hb4⟩
      have e1 : ((t : Int) + ((⟨[120], p, x⟩ : One).period - (⟨[120], p, x⟩ : One).age % (⟨[120], p, x⟩ : One).period)) = N := HNE.out.symm
      rw [e1]
      have HS4 := Lib.hid (HS'.out.below hb4)
      have HB4 := Lib.hid (HB.out.trans (hb4.mono HB.out.size))
      clear hb4 e1
      go_wp2_with fail
      refine (tick_one w.heap.size (w.heap.size + 1) q c t ⟨[120], p, x⟩ w4 HS4.out (by omega) (by omega) ⟨hp1, hp2, hx0, by show x ≤ 1000000; omega⟩).mono ?_
      rintro e w5 ⟨q5, c5, rfl, hs5, hr5, hb5⟩
      have HS5 : Hid (SchedAt w5 w.heap.size (w.heap.size + 1) q c ((t : Int) + 1) [⟨[120], p, x + 1⟩]) := Lib.hid (by rw [← HTK.out]; exact hs5)
      have HB5 := Lib.hid (HB4.out.trans (hb5.mono (by omega)))
      obtain ⟨F, hF⟩ : ∃ F : Nat, F = (dues [(⟨[120], p, x⟩ : One)]).length := ⟨_, rfl⟩
      rw [← hF]
      have hor : (F = 1 ∧ N = (t : Int) + 1 ∧ (x + 1) / p = x / p + 1) ∨ (F = 0 ∧ ¬ N = (t : Int) + 1 ∧ (x + 1) / p = x / p) := by
        have hd := HDL.out
        rw [HDU.out] at hd
        rcases HSD.out with ⟨g1, g2, g3⟩ | ⟨g1, g2, g3⟩
        · left; refine ⟨by rw [hF, hd, g2]; rfl, by rw [HNE.out]; omega, g3⟩
        · right; refine ⟨by rw [hF, hd, if_neg (by simpa using g2)], by rw [HNE.out]; omega, g3⟩
      clear hs5 hr5 hb5 hF
      rcases hor with ⟨rfl, rfl, g3⟩ | ⟨rfl, gN, g3⟩
      · have HG := Lib.hid g3
        clear g3
        go_wp2_with fail
        refine (now_any w.heap.size (w.heap.size + 1) q c _ _ w5 HS5.out).mono ?_
        rintro e w6 ⟨rfl, rfl⟩
        go_wp2_with fail
        exact ⟨⟨t + 1, m + 1, by omega, by go_num, rfl, by omega, by omega, Lib.hid (by rw [HXE.out, HG.out, HM.out, HX.out]; omega), Lib.hid (by rw [HXE.out]; exact HS5.out), HB5⟩, by simp [intOf]; omega⟩
      · have gB : (N == (t : Int) + 1) = false := by rw [beq_eq_false_iff_ne]; exact gN
        have HG := Lib.hid g3
        clear g3
        go_wp2_with fail
        refine (now_any w.heap.size (w.heap.size + 1) q c _ _ w5 HS5.out).mono ?_
        rintro e w6 ⟨rfl, rfl⟩
        go_wp2_with fail
        exact ⟨⟨t + 1, m, by omega, by go_num, rfl, by omega, by omega, Lib.hid (by rw [HXE.out, HG.out, HM.out, HX.out]), Lib.hid (by rw [HXE.out]; exact HS5.out), HB5⟩, by simp [intOf]; omega⟩
    · have hltI : ¬ ((t : Int) < (T : Int)) := by omega
      obtain rfl : t = T := by omega
      have hp0 : ¬ p = 0 := by omega
      have b1 : 0 ≤ ((a : Int) + (t : Int)) / p := Int.ediv_nonneg (by omega) (by omega)
      have b2 : ((a : Int) + (t : Int)) / p ≤ (a : Int) + (t : Int) := Int.ediv_le_self _ (by omega)
      have b3 : 0 ≤ (a : Int) / p := Int.ediv_nonneg (by omega) (by omega)
      have b4 : (a : Int) / p ≤ (a : Int) := Int.ediv_le_self _ (by omega)
      have hme : (m == ((a : Int) + (t : Int)) / p - (a : Int) / p) = true := by rw [HM.out]; simp
      go_wp2_with fail
      refine Rc.region (wr.heap.size) 12 [] [] (by kernel_rfl) (Nat.le_refl _) (by kernel_rfl) ?_; intro p; simp only [List.take, List.drop]
      iterate 12 (refine Rc.rK rfl rfl ?_; intro K hK; apply Exists.intro; refine ⟨?_, ?_⟩; (focus (intro x hx;  go_simp; (first | (fail) | ((try go_bits); (try go_simp); (try rfl))))); go_simp; refine hK _ ?_; clear hK K)
      refine Rc.done fun wz Fs hx hle hg => ?_
      have HBZ := Lib.hid (HB.out.trans ((Rc.undrew hx).mono HB.out.size))
      clear hx hle hg
      go_wp2_with fail
      refine NoPanic.normal ?_
      go_wp2_with fail
      go_ret
      exact ⟨rfl, HBZ.out⟩
end Cad
end Go.Proofs.Ytmkoiddfkanmiaa

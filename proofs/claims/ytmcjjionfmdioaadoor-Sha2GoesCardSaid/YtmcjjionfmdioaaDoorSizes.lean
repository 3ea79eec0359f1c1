/- The walk of custumallaw01.Sha2Sizes. -/
import Derived.Test.YtmcjjionfmdioaaDoorSums
namespace Go.Proofs.YtmcjjionfmdioaaDoor
open Go.RowKit Bits Mem Sha
namespace Ref
theorem HashAt.below {w w' : World} {hb : Nat} {all : List UInt8} (h : HashAt w hb all) (hbl : Below w.heap.size w w') : HashAt w' hb all := by
  obtain ⟨p, c, t, h1, h2, h3⟩ := h
  exact ⟨p, c, t, Rg.below_row hbl (lt_of_heap h1) h1, h2.below hbl, h3⟩
theorem HashAt.lt {w : World} {hb : Nat} {all : List UInt8} (h : HashAt w hb all) : hb < w.heap.size := by
  obtain ⟨p, c, t, h1, _⟩ := h
  exact lt_of_heap h1
/-- What is written to another hash turns this one not. -/
theorem HashAt.other {w w' : World} {hb f : Nat} {all all' : List UInt8} (h : HashAt w hb all) (h' : HashAt w f all') (hne : hb ≠ f) (hg : w.grownBy w' (some f)) : HashAt w' hb all := by
  obtain ⟨p, c, t, h1, h2, h3⟩ := h
  obtain ⟨p', c', t', g1, _, _⟩ := h'
  refine ⟨p, c, t, (hg.block hb (lt_of_heap h1) (by simpa using hne)).trans h1, ?_, h3⟩
  refine ⟨h2.1, ?_⟩
  rcases h2.2 with hn | ⟨b, off, cap, hv, hb, hnc, hcm, hc⟩
  · exact .inl hn
  · refine .inr ⟨b, off, cap, hv, Nat.lt_of_lt_of_le hb hg.size, hnc, hcm, fun j u hu => ?_⟩
    have hcu := hc j u hu
    by_cases hbf : b = f
    · subst hbf
      rw [cell_of_row w b _ _ _ _ g1] at hcu
      have hm := Array.mem_of_getElem? hcu
      have hu8 : ∃ x : UInt8, u = .int .u8 (x.toNat : Int) := by
        have := List.mem_of_getElem? hu
        simp only [bys, List.mem_map] at this
        obtain ⟨x, _, rfl⟩ := this
        exact ⟨x, rfl⟩
      obtain ⟨x, rfl⟩ := hu8
      simp [cells] at hm
    · exact hg.cell hcu (by simpa using hbf)
theorem made_bys (n : Nat) : (madeCells (Value.int .u8 0).cells (n * 1)).toList = bys (List.replicate n 0) := by
  apply List.ext_getElem?
  intro i
  unfold madeCells
  by_cases hi : i < n
  · simp [bys, hi, Value.cells, Nat.mod_one]
  · simp [bys, hi]
theorem Parts.lit1 (w : World) (a : List UInt8) (x : Value) (hx : ∃ q c, x = .slice q a.length c ∧ Rd w 1 (.slice q a.length c) a.length (bys a)) :
    Parts (w.alloc (.cells #[x] 28)) (.slice (some ⟨w.heap.size, 0, none⟩) 1 1) [a] := by
  have hb : Below w.heap.size w (w.alloc (.cells #[x] 28)) := (Below.refl _ _).alloc (Nat.le_refl _) _
  refine ⟨[x], Rd_lit w #[x] 28 1 1 rfl (by decide), fun i hi => ?_⟩
  obtain ⟨q, c, rfl, hx⟩ := hx
  match i, hi with
  | 0, _ => exact ⟨q, c, rfl, hx.below hb⟩
theorem mod400 (n : Int) : ∃ m : Nat, m < 400 ∧ wrap64 ((IntKind.u64.wrap n).tmod 400) = (m : Int) := by
  have h1 : 0 ≤ IntKind.u64.wrap n := by rw [IntKind.wrap_u64]; omega
  have h2 : (IntKind.u64.wrap n).tmod 400 = IntKind.u64.wrap n % 400 := Int.tmod_eq_emod_of_nonneg h1
  refine ⟨(IntKind.u64.wrap n % 400).toNat, by omega, ?_⟩
  rw [h2]
  have h3 : 0 ≤ IntKind.u64.wrap n % 400 ∧ IntKind.u64.wrap n % 400 < 400 := by omega
  rw [IntWalk.wrap64_in _ (by omega)]
  omega
set_option maxRecDepth 100000 in
set_option maxHeartbeats 4000000 in
theorem sha2sizes_any (n : Int) (w : World) (hS : Sha.Tabs w) (hR : Ref.Tabs w) (_h0 : -9223372036854775808 ≤ n) (_h1 : n ≤ 9223372036854775807) :
    Calls Tryd.prog 4 #[.int .i64 n] w fun e w' => e = .returned (.bool true) ∧ Below w.heap.size w w' := by
  have HS := Lib.hid hS
  have HR := Lib.hid hR
  clear hS hR
  go_enter Tryd.func4, Tryd.ntmps4
  obtain ⟨m, hm, em⟩ := mod400 n
  obtain ⟨i0, hi, hz0, hz1, hz2⟩ := parts3 info1
  go_wp2_with (refine wpList_make_full _ rfl _ _ 28 rfl w.heap.size 5 i0 (.int .u8 0) 1 Tryd.underlying28 hi hz0 hz1 .i64 .i64 _ _ m rfl rfl em em (by rw [hz2]; omega) (by unfold maxLen; omega) (Nat.le_refl _) ?_; go_must (intro w1 hown hg1))
  have hb1 : Below w.heap.size w w1 := below_of_grown hg1 (Nat.le_refl _) (fun k hk => by cases hk)
  have HB1 := Lib.hid hb1
  have hrd := Rd.of_own hown
  rw [made_bys] at hrd
  obtain ⟨Z, hZ⟩ : ∃ Z, Z = List.replicate m (0 : UInt8) := ⟨_, rfl⟩
  have hZl : Z.length = m := by rw [hZ, List.length_replicate]
  rw [← hZ] at hrd
  subst hZl
  have HRD := Lib.hid hrd
  clear hb1 hg1 hown hrd em hZ
  have hw2 : Below w1.heap.size w1 (w1.alloc (.cells #[.slice (some ⟨w.heap.size, 0, none⟩) Z.length Z.length] 28)) := (Below.refl _ _).alloc (Nat.le_refl _) _
  refine (parts_any _ _ [Z] _ (HS.out.below (HB1.out.trans (hw2.mono HB1.out.size))) (Parts.lit1 w1 Z _ ⟨_, _, rfl, HRD.out⟩) (by simp; omega)).mono ?_
  rintro e w3 ⟨rfl, hb3⟩
  have h13 : Below w1.heap.size w1 w3 := hw2.trans (hb3.mono hw2.size)
  have HB3 := Lib.hid (HB1.out.trans (h13.mono HB1.out.size))
  have HRD3 := Lib.hid (HRD.out.below h13)
  have hF : [Z].flatten = Z := by simp
  rw [hF]
  clear hF hb3 h13 hw2 HRD HB1
  have HL := Lib.hid (sha_length Z)
  have HI : Hid ((Tryd.prog.info? 25).map (·.size) = some (bysA (sha Z)).size) := Lib.hid (by rw [bysA_size, sha_length]; exact info32)
  go_wp2_with (refine Rg.store_row_new rfl 25 _ _ rfl (w3).heap.size rfl rfl 25 _ (bysA (sha Z)) rfl HI.out (by rw [bysA_size, HL.out]; rfl) (bysA_one _) ?_)
  have hrow := Rg.heap_alloc_at w3 (.cells (bysA (sha Z)) 25) w3.heap.size rfl
  have hba : Below w3.heap.size w3 (w3.alloc (.cells (bysA (sha Z)) 25)) := (Below.refl _ _).alloc (Nat.le_refl _) _
  refine Rp.region 9 [(0, false), (1, true), (2, true), (3, true), (4, true), (5, true), (6, false), (7, true), (8, true)] (by kernel_rfl) (by kernel_rfl) ?_; simp only [Rp.pick, Rp.nth, List.drop_succ_cons, List.drop_zero]
  obtain ⟨wd, hwd⟩ : ∃ wd, wd = (w3.alloc (.cells (bysA (sha Z)) 25)).drew := ⟨_, rfl⟩
  have hbd : Below w3.heap.size w3 wd := by rw [hwd]; exact hba.drew
  have HRDD := Lib.hid (HRD3.out.below hbd)
  have HBD := Lib.hid (HB3.out.trans (hbd.mono HB3.out.size))
  have HROW : Hid (wd.heap[w3.heap.size]? = some (.cells (bysA (sha Z)) 25)) := Lib.hid (by rw [hwd]; exact hrow)
  rw [← hwd]
  clear hwd hbd hba hrow
  refine Rp.stepF fun K hK => ?_; go_wp2_with fail; refine (sums_any _ (HS.out.below HBD.out)).mono ?_; rintro e w4 ⟨rfl, hb4⟩; go_wp2_with fail; refine hK _ _ hb4 ?_; clear hK K
  have HR4 := Lib.hid (Rp.row_le hb4 HROW.out)
  have HB4 := Lib.hid (HBD.out.trans (hb4.mono HBD.out.size))
  have HRD4 := Lib.hid (HRDD.out.below hb4)
  clear hb4
  go_simp
  repeat (refine Rp.stepK rfl ?_; intro K hK; apply Exists.intro; refine ⟨?_, ?_⟩; (focus (intro x hx;  go_simp; (first | (fail) | ((try go_bits); (try go_simp); (try rfl))))); go_simp; refine hK _ ?_; clear hK K)
  refine Rp.s_str rfl 28 9 _ rfl 5 Tryd.underlying9 Tryd.underlying28 Tryd.underlying5 _ _ (sha Z) rfl (Rd_of_row HR4.out HL.out (by decide)) ?_; intro K hK; go_simp; refine hK _ ?_; clear hK K
  repeat (refine Rp.stepK rfl ?_; intro K hK; apply Exists.intro; refine ⟨?_, ?_⟩; (focus (intro x hx;  go_simp; (first | (fail) | ((try go_bits); (try go_simp); (try rfl))))); go_simp; refine hK _ ?_; clear hK K)
  refine Rp.s_str rfl 28 9 _ rfl 5 Tryd.underlying9 Tryd.underlying28 Tryd.underlying5 _ _ (Z) rfl (HRD4.out) ?_; intro K hK; go_simp; refine hK _ ?_; clear hK K
  refine Rp.stepF fun K hK => ?_; go_wp2_with fail; refine (sum_any ⟨Z.toArray⟩ Z (by rfl) _ (HR.out.below HB4.out) (by omega)).mono ?_; rintro e w5 ⟨rfl, hb5⟩; go_wp2_with fail; refine hK _ _ hb5 ?_; clear hK K
  have HB5 := Lib.hid (HB4.out.trans (hb5.mono HB4.out.size))
  clear hb5
  go_simp
  repeat (refine Rp.stepK rfl ?_; intro K hK; apply Exists.intro; refine ⟨?_, ?_⟩; (focus (intro x hx;  go_simp; (first | (fail) | ((try go_bits); (try go_simp); (try rfl))))); go_simp; refine hK _ ?_; clear hK K)
  refine Rp.done ?_; go_wp2_with fail; refine NoPanic.normal ?_; go_wp2_with fail
  go_ret
  exact ⟨rfl, HB5.out⟩
end Ref
end Go.Proofs.YtmcjjionfmdioaaDoor

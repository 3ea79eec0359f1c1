/- The walks of custumallaw01.sums and of Sha2Sums. -/
import Derived.Test.YtmcjjionfmdioaaDoorFew
import Derived.Test.YtmcjjionfmdioaaDoorRefB
import Derived.Lib.SlBytesConst
namespace Go.Proofs.YtmcjjionfmdioaaDoor
open Go.RowKit Bits Mem Sha
namespace Ref
theorem Rd_of_row {w : World} {g n : Nat} {l : List UInt8} {t : TypeId} {f : Nat × Nat} (h : w.heap[g]? = some (.cells (bysA l) t f)) (hn : l.length = n) (hm : n ≤ maxLen) : Rd w 1 (.slice (some ⟨g, 0, none⟩) n n) n (bys l) := by
  subst hn
  refine ⟨by rw [bys_length]; omega, .inr ⟨g, 0, l.length, rfl, lt_of_heap h, Nat.le_refl _, hm, fun j u hu => ?_⟩⟩
  rw [Nat.zero_add, cell_of_row w g j _ _ _ h]
  simpa [bysA] using hu
theorem sha_abc : bt (sha [97, 98, 99]) 0 = 186 ∧ bt (sha [97, 98, 99]) 1 = 120 ∧ bt (sha [97, 98, 99]) 31 = 173 := by decide +kernel
theorem cell_of_bys {w : World} {g k : Nat} {l : List UInt8} {t : TypeId} {f : Nat × Nat} (h : w.heap[g]? = some (.cells (bysA l) t f)) (hk : k < l.length) : w.cell? ⟨g, k, none⟩ = some (.int .u8 ((bt l k).toNat : Int)) := by
  rw [cell_of_row w g k _ _ _ h]
  have := bys_get l k hk
  simpa [bysA, bt] using this
theorem Parts.lit2 (w : World) (a b : List UInt8) (x y : Value) (hx : ∃ q c, x = .slice q a.length c ∧ Rd w 1 (.slice q a.length c) a.length (bys a)) (hy : ∃ q c, y = .slice q b.length c ∧ Rd w 1 (.slice q b.length c) b.length (bys b)) :
    Parts (w.alloc (.cells #[x, y] 28)) (.slice (some ⟨w.heap.size, 0, none⟩) 2 2) [a, b] := by
  have hb : Below w.heap.size w (w.alloc (.cells #[x, y] 28)) := (Below.refl _ _).alloc (Nat.le_refl _) _
  refine ⟨[x, y], Rd_lit w #[x, y] 28 1 2 rfl (by decide), fun i hi => ?_⟩
  obtain ⟨q, c, rfl, hx⟩ := hx
  obtain ⟨q', c', rfl, hy⟩ := hy
  match i, hi with
  | 0, _ => exact ⟨q, c, rfl, hx.below hb⟩
  | 1, _ => exact ⟨q', c', rfl, hy.below hb⟩
set_option maxRecDepth 100000 in
set_option maxHeartbeats 4000000 in
theorem sums_any (w : World) (hT : Sha.Tabs w) : Calls Tryd.prog 18 #[] w fun e w' => e = .returned (.bool true) ∧ Below w.heap.size w w' := by
  have HT := Lib.hid hT; clear hT
  go_enter Tryd.func18, Tryd.ntmps18
  go_wp2_with (refine conv_lit rfl 28 _ rfl 5 Tryd.underlying28 Tryd.underlying5 _ _ _ rfl _ _ rfl (by simp) ?_)
  have hpl : Parts (((w.alloc (.cells #[.int .u8 97] 5 (1, 2))).alloc (.cells #[.int .u8 98, .int .u8 99] 5 (2, 3))).alloc (.cells #[.slice (some ⟨w.heap.size, 0, none⟩) 1 1, .slice (some ⟨w.heap.size + 1, 0, none⟩) 2 2] 28)) (.slice (some ⟨w.heap.size + 1 + 1, 0, none⟩) 2 2) [[97], [98, 99]] := by
    have h1 : Ow (w.alloc (.cells #[.int .u8 97] 5 (1, 2))) 0 5 1 (.slice (some ⟨w.heap.size, 0, none⟩) 1 1) 1 (bys [97]) := Ow.lit_marked w #[.int .u8 97] 5 1 1 0 (Nat.zero_le _) (by decide) rfl
    have h2 : Ow ((w.alloc (.cells #[.int .u8 97] 5 (1, 2))).alloc (.cells #[.int .u8 98, .int .u8 99] 5 (2, 3))) 0 5 1 (.slice (some ⟨(w.alloc (.cells #[.int .u8 97] 5 (1, 2))).heap.size, 0, none⟩) 2 2) 2 (bys [98, 99]) := Ow.lit_marked (w.alloc (.cells #[.int .u8 97] 5 (1, 2))) #[.int .u8 98, .int .u8 99] 5 1 2 0 (Nat.zero_le _) (by decide) rfl
    have := Parts.lit2 ((w.alloc (.cells #[.int .u8 97] 5 (1, 2))).alloc (.cells #[.int .u8 98, .int .u8 99] 5 (2, 3))) [97] [98, 99] _ _ ⟨_, _, rfl, Rd.of_ow (h1.alloc _)⟩ ⟨_, _, rfl, Rd.of_ow h2⟩
    simpa using this
  refine (parts_any _ _ _ _ (HT.out.below ((((Below.refl _ _).alloc (Nat.le_refl _) _).alloc (by simp) _).alloc (by simp; omega) _)) hpl (by decide)).mono ?_
  rintro e w1 ⟨rfl, hb1⟩
  have HB1 : Hid (Below w.heap.size w w1) := Lib.hid (((((Below.refl _ _).alloc (Nat.le_refl _) _).alloc (by simp) _).alloc (by simp; omega) _).trans (hb1.mono (by simp; omega)))
  clear hb1 hpl
  have HS := Lib.hid (sha_length [97, 98, 99])
  have HI : Hid ((Tryd.prog.info? 25).map (·.size) = some (bysA (sha [97, 98, 99])).size) := Lib.hid (by rw [bysA_size, sha_length]; exact info32)
  have hF : [[97], [98, 99]].flatten = ([97, 98, 99] : List UInt8) := rfl
  rw [hF]
  clear hF
  have hwv := Rg.heap_alloc_at w1 (.cells (bysA (sha [97, 98, 99])) 25) w1.heap.size rfl
  have c0 := cell_of_bys hwv (k := 0) (by rw [sha_length]; decide)
  have c1 := cell_of_bys hwv (k := 1) (by rw [sha_length]; decide)
  have c31 := cell_of_bys hwv (k := 31) (by rw [sha_length]; decide)
  rw [sha_abc.1] at c0
  rw [sha_abc.2.1] at c1
  rw [sha_abc.2.2] at c31
  clear hwv
  generalize sha [97, 98, 99] = S at *
  go_wp2_with (refine Rg.store_row_new rfl 25 _ _ rfl w1.heap.size rfl rfl 25 _ (bysA S) rfl HI.out (by rw [bysA_size, HS.out]; rfl) (bysA_one _) ?_)
  go_ret
  exact ⟨rfl, HB1.out.alloc HB1.out.size _⟩
set_option maxRecDepth 100000 in
set_option maxHeartbeats 4000000 in
theorem sha2sums_any (q : Option Addr) (c : Nat) (L : List (List UInt8)) (w : World) (hS : Sha.Tabs w) (hR : Ref.Tabs w) (hp : RawParts w (.slice q L.length c) L) :
    Calls Tryd.prog 3 #[.slice q L.length c] w fun e w' => e = .returned (.bool true) ∧ Below w.heap.size w w' := by
  have HS := Lib.hid hS
  have HR := Lib.hid hR
  have HP := Lib.hid hp
  clear hS hR hp
  go_enter Tryd.func3, Tryd.ntmps3
  go_wp2_with fail
  refine (few_any _ _ L 8 700 _ HP.out (by decide) (by decide) (by decide) (by decide)).mono ?_
  rintro e w1 ⟨v1, rfl, hown, hb1⟩
  have hll : (few L (8 : Int).toNat (700 : Int).toNat).flatten.length ≤ 5600 := few_flat L 8 700
  obtain ⟨M, hM⟩ : ∃ M, M = few L (8 : Int).toNat (700 : Int).toNat := ⟨_, rfl⟩
  rw [← hM] at hown hll
  clear hM
  have hpm := Ref.OwnP.parts hown
  obtain ⟨q1, c1, rfl⟩ : ∃ q1 c1, v1 = .slice q1 M.length c1 := by
    obtain ⟨vs, hv, _⟩ := hpm
    exact Rd_form hv
  have HPM := Lib.hid hpm
  have HB1 := Lib.hid hb1
  clear hown hb1 hpm
  go_wp2_with fail
  refine (all_any _ _ M _ HPM.out (by omega)).mono ?_
  rintro e w2 ⟨rfl, hb2⟩
  have HB2 := Lib.hid (HB1.out.trans (hb2.mono HB1.out.size))
  have HPM2 := Lib.hid (HPM.out.below hb2)
  clear hb2 HPM HB1
  go_wp2_with fail
  refine (parts_any _ _ M _ (HS.out.below HB2.out) HPM2.out (by omega)).mono ?_
  rintro e w3 ⟨rfl, hb3⟩
  have HB3 := Lib.hid (HB2.out.trans (hb3.mono HB2.out.size))
  have HPM3 := Lib.hid (HPM2.out.below hb3)
  clear hb3 HPM2 HB2
  have HL := Lib.hid (sha_length M.flatten)
  have HI : Hid ((Tryd.prog.info? 25).map (·.size) = some (bysA (sha M.flatten)).size) := Lib.hid (by rw [bysA_size, sha_length]; exact info32)
  have hflat : (⟨M.flatten.toArray⟩ : ByteArray).data.toList = M.flatten := rfl
  have HF := Lib.hid hflat
  clear hflat
  obtain ⟨Fl, hFl⟩ : ∃ Fl, Fl = M.flatten := ⟨_, rfl⟩
  rw [← hFl] at HL HI HF hll ⊢
  have HFl := Lib.hid hFl
  clear hFl
  go_wp2_with (refine Rg.store_row_new rfl 25 _ _ rfl w3.heap.size rfl rfl 25 _ (bysA (sha Fl)) rfl HI.out (by rw [bysA_size, HL.out]; rfl) (bysA_one _) ?_)
  have hrow := Rg.heap_alloc_at w3 (.cells (bysA (sha Fl)) 25) w3.heap.size rfl
  obtain ⟨g, hg⟩ : ∃ g, g = w3.heap.size := ⟨_, rfl⟩
  have hba : Below w3.heap.size w3 (w3.alloc (.cells (bysA (sha Fl)) 25)) := (Below.refl _ _).alloc (Nat.le_refl _) _
  have hpa := HPM3.out.below hba
  have hba' := HB3.out.trans (hba.mono HB3.out.size)
  obtain ⟨wa, hwa⟩ : ∃ wa, wa = w3.alloc (.cells (bysA (sha Fl)) 25) := ⟨_, rfl⟩
  rw [← hwa, ← hg] at hrow ⊢
  rw [← hwa] at hpa hba'
  have HROW := Lib.hid hrow
  have HPA := Lib.hid hpa
  have HBA := Lib.hid hba'
  clear hrow hg hba hpa hba' hwa HB3 HPM3
  refine Rp.region 14 [(0, false), (1, true), (2, true), (3, true), (4, true), (5, false), (6, true), (7, true), (8, true), (9, true), (11, true), (10, false), (12, true), (13, true)] (by kernel_rfl) (by kernel_rfl) ?_; simp only [Rp.pick, Rp.nth, List.drop_succ_cons, List.drop_zero]
  obtain ⟨wd, hwd⟩ : ∃ wd, wd = wa.drew := ⟨_, rfl⟩
  have HBD : Hid (Below w.heap.size w wd) := Lib.hid (by rw [hwd]; exact Below.drew HBA.out)
  have HPD : Hid (Parts wd (.slice q1 M.length c1) M) := Lib.hid (by rw [hwd]; exact HPA.out)
  have HRD : Hid (wd.heap[g]? = some (.cells (bysA (sha Fl)) 25)) := Lib.hid (by rw [hwd]; exact HROW.out)
  rw [← hwd]
  clear hwd HBA HPA HROW
  refine Rp.stepF fun K hK => ?_
  go_wp2_with fail
  refine (sums_any _ (HS.out.below HBD.out)).mono ?_
  rintro e w4 ⟨rfl, hb4⟩
  go_wp2_with fail
  refine hK _ _ hb4 ?_; clear hK K
  have HR4 := Lib.hid (Rp.row_le hb4 HRD.out)
  have HB4 := Lib.hid (HBD.out.trans (hb4.mono HBD.out.size))
  have HP4 := Lib.hid (HPD.out.below hb4)
  clear hb4
  go_simp
  repeat (refine Rp.stepK rfl ?_; intro K hK; apply Exists.intro; refine ⟨?_, ?_⟩; (focus (intro x hx;  go_simp; (first | (fail) | ((try go_bits); (try go_simp); (try rfl))))); go_simp; refine hK _ ?_; clear hK K)
  refine Rp.s_str rfl 28 9 _ rfl 5 Tryd.underlying9 Tryd.underlying28 Tryd.underlying5 _ 32 (sha Fl) rfl (Rd_of_row HR4.out HL.out (by decide)) ?_
  intro K hK; go_simp; refine hK _ ?_; clear hK K
  repeat (refine Rp.stepK rfl ?_; intro K hK; apply Exists.intro; refine ⟨?_, ?_⟩; (focus (intro x hx;  go_simp; (first | (fail) | ((try go_bits); (try go_simp); (try rfl))))); go_simp; refine hK _ ?_; clear hK K)
  refine Rp.stepF fun K hK => ?_
  go_wp2_with fail
  refine (sum_any ⟨Fl.toArray⟩ Fl (by rfl) _ (HR.out.below HB4.out) (by omega)).mono ?_
  rintro e w5 ⟨rfl, hb5⟩
  go_wp2_with fail
  refine hK _ _ hb5 ?_; clear hK K
  have HB5 := Lib.hid (HB4.out.trans (hb5.mono HB4.out.size))
  have HP5 := Lib.hid (HP4.out.below hb5)
  clear hb5
  go_simp
  repeat (refine Rp.stepK rfl ?_; intro K hK; apply Exists.intro; refine ⟨?_, ?_⟩; (focus (intro x hx;  go_simp; (first | (fail) | ((try go_bits); (try go_simp); (try rfl))))); go_simp; refine hK _ ?_; clear hK K)
  refine Rp.stepF fun K hK => ?_
  go_wp2_with fail
  refine (all_any _ _ M _ HP5.out (by rw [← HFl.out]; omega)).mono ?_
  rintro e w6 ⟨rfl, hb6⟩
  go_wp2_with fail
  refine hK _ _ hb6 ?_; clear hK K
  have HB6 := Lib.hid (HB5.out.trans (hb6.mono HB5.out.size))
  clear hb6
  rw [← HFl.out]
  go_simp
  repeat (refine Rp.stepK rfl ?_; intro K hK; apply Exists.intro; refine ⟨?_, ?_⟩; (focus (intro x hx;  go_simp; (first | (fail) | ((try go_bits); (try go_simp); (try rfl))))); go_simp; refine hK _ ?_; clear hK K)
  refine Rp.done ?_
  go_wp2_with fail
  refine NoPanic.normal ?_
  go_wp2_with fail
  go_ret
  exact ⟨rfl, HB6.out⟩
end Ref
end Go.Proofs.YtmcjjionfmdioaaDoor

/- The walk of hmac.Of. Conditions: a message that is not too long. -/
import Derived.Test.YtmcjjionfmdioaaDoorMac
namespace Go.Proofs.YtmcjjionfmdioaaDoor
open Go.RowKit Bits Mem Sha
namespace Ref
theorem z32 : (#[.int .u8 0, .int .u8 0, .int .u8 0, .int .u8 0, .int .u8 0, .int .u8 0, .int .u8 0, .int .u8 0, .int .u8 0, .int .u8 0, .int .u8 0, .int .u8 0, .int .u8 0, .int .u8 0, .int .u8 0, .int .u8 0, .int .u8 0, .int .u8 0, .int .u8 0, .int .u8 0, .int .u8 0, .int .u8 0, .int .u8 0, .int .u8 0, .int .u8 0, .int .u8 0, .int .u8 0, .int .u8 0, .int .u8 0, .int .u8 0, .int .u8 0, .int .u8 0] : Array Value) = bysA zeros32 := rfl
set_option maxRecDepth 100000 in
set_option maxHeartbeats 400000 in
theorem of_any (q : Option Addr) (c : Nat) (l : List UInt8) (pq : Option Addr) (pc : Nat) (L : List (List UInt8)) (w : World) (hS : Sha.Tabs w) (hl : Rd w 1 (.slice q l.length c) l.length (bys l)) (hp : Parts w (.slice pq L.length pc) L) (hsz : L.flatten.length ≤ 35184372088832) (hkz : l.length ≤ 35184372088832) :
    Calls Tryd.prog 39 #[.slice q l.length c, .slice pq L.length pc] w fun e w' => e = .returned (.agg (bysA (hmac l L.flatten))) ∧ Below w.heap.size w w' := by
  have HS := Lib.hid hS
  have HL := Lib.hid hl
  have HP := Lib.hid hp
  clear hS hl hp
  by_cases h64 : 64 < l.length
  · go_enter Tryd.func39, Tryd.ntmps39
    go_wp2_with fail
    rw [z32]
    obtain ⟨wz, hwz⟩ : ∃ wz, wz = w.alloc (.cells (bysA zeros32) 25) := ⟨_, rfl⟩
    have hws : wz.heap.size = w.heap.size + 1 := by rw [hwz]; simp
    have hw1 : Below w.heap.size w wz := by rw [hwz]; exact (Below.refl _ _).alloc (Nat.le_refl _) _
    have hrz0 : wz.heap[w.heap.size]? = some (.cells (bysA zeros32) 25 (0, 0)) := by rw [hwz]; exact Rg.heap_alloc_at w _ _ rfl
    rw [← hwz, ← hws]
    clear hwz hws
    have hw2 : Below wz.heap.size wz (wz.alloc (.cells #[.slice q l.length c] 28)) := (Below.refl _ _).alloc (Nat.le_refl _) _
    refine (parts_any _ _ [l] _ (HS.out.below (hw1.trans (hw2.mono hw1.size))) (Parts.lit1 wz l _ ⟨_, _, rfl, HL.out.below hw1⟩) (by simp; omega)).mono ?_
    rintro e w1 ⟨rfl, hb1⟩
    have hF : [l].flatten = l := by simp
    rw [hF]
    have h13 : Below wz.heap.size wz w1 := hw2.trans (hb1.mono hw2.size)
    have hrz := Rp.row_le h13 hrz0
    have HB1 := Lib.hid (hw1.trans (h13.mono hw1.size))
    have HRZ := Lib.hid hrz
    have HLs := Lib.hid (sha_length l)
    have HI : Hid ((Tryd.prog.info? 25).map (·.size) = some (bysA (sha l)).size) := Lib.hid (by rw [bysA_size, sha_length]; exact info32)
    clear hF hb1 hrz hw1 hw2 h13 hrz0
    go_wp2_with (refine Rg.store_row_new rfl 25 _ _ rfl w1.heap.size rfl rfl 25 _ (bysA (sha l)) rfl HI.out (by rw [bysA_size, HLs.out]; rfl) (bysA_one _) ?_)
    have hrow := Rg.heap_alloc_at w1 (.cells (bysA (sha l)) 25) w1.heap.size rfl
    have hba : Below w1.heap.size w1 (w1.alloc (.cells (bysA (sha l)) 25)) := (Below.refl _ _).alloc (Nat.le_refl _) _
    have HBA := Lib.hid (HB1.out.trans (hba.mono HB1.out.size))
    have HRA := Lib.hid (Rp.row_le hba HRZ.out)
    have hkl : macKey l = sha l := by unfold macKey; rw [if_pos h64]
    have HKEY : Hid (Rd (w1.alloc (.cells (bysA (sha l)) 25)) 1 (.slice (some ⟨w1.heap.size, 0, none⟩) 32 32) 32 (bys (macKey l))) := Lib.hid (by rw [hkl]; exact Rd_of_row hrow HLs.out (by decide))
    have HKN : Hid ((macKey l).length = 32) := Lib.hid (by rw [hkl, HLs.out])
    obtain ⟨wa, hwa⟩ : ∃ wa, wa = w1.alloc (.cells (bysA (sha l)) 25) := ⟨_, rfl⟩
    rw [← hwa] at HKEY HRA HBA ⊢
    clear hkl hrow hba hwa HB1 HRZ
    have hKl := macKey_length l
    obtain ⟨k, hk⟩ : ∃ k, k = macKey l := ⟨_, rfl⟩
    rw [← hk] at HKEY hKl HKN
    have HKE := Lib.hid hk
    clear hk
    go_wp2_with fail
    refine (new_any _ (HS.out.below HBA.out)).mono ?_
    rintro e w2 ⟨hb, rfl, hh, hge, hb2⟩
    have HGE : Hid (w.heap.size < hb) := Lib.hid (Nat.lt_of_lt_of_le (lt_of_heap HRA.out) hge)
    have HHH := Lib.hid hh
    have HB2 := Lib.hid (HBA.out.trans (hb2.mono HBA.out.size))
    have HR2 := Lib.hid (Rp.row_le hb2 HRA.out)
    have HNE : Hid (∀ j, Value.ownBlock (.slice (some ⟨w1.heap.size, 0, none⟩) 32 32) = some j → j ≠ hb) := Lib.hid (fun j hj => by have := Rd_own_lt HKEY.out hj; omega)
    have HK2 := Lib.hid (HKEY.out.below hb2)
    clear hh hge hb2
    go_wp2_with fail
    refine (pad_any _ _ _ k 54 _ HKN.out HK2.out hKl).mono ?_
    rintro e w3 ⟨gp, rfl, hgp, hrowp, hb3⟩
    have hpl := padk_length k 54 hKl
    have hrp := Rd_of_row hrowp hpl (by decide)
    have hlt := HashAt.lt HHH.out
    have hh3 := HashAt.below HHH.out hb3
    have hne3 : (Value.slice (some ⟨gp, 0, none⟩) 64 64).ownBlock ≠ some hb := fun e => by
      have e' : gp = hb := by simpa [Value.ownBlock] using e
      omega
    have HB3 := Lib.hid (HB2.out.trans (hb3.mono HB2.out.size))
    have HR3 := Lib.hid (Rp.row_le hb3 HR2.out)
    have HK3 := Lib.hid (HK2.out.below hb3)
    obtain ⟨p1, hp1⟩ : ∃ p1, p1 = padk k 54 := ⟨_, rfl⟩
    rw [← hp1] at hrp hpl
    have HP1 := Lib.hid hp1
    have hw := write_any hb [] p1 (some ⟨gp, 0, none⟩) 64 w3 (HS.out.below HB3.out) hh3 (by rw [hpl]; exact hrp) (by rw [hpl]; exact hne3) (by rw [hpl]; simp)
    rw [hpl, List.nil_append] at hw
    have HPL := Lib.hid hpl
    clear hp1 hb3 hrowp HR2 HB2 HHH HK2 hpl hrp hh3 hne3 hlt
    go_wp2_with fail
    refine hw.mono ?_
    clear hw
    rintro e w4 ⟨rfl, hh4, hg4⟩
    have hltb := lt_of_heap HR3.out
    have HB4 := Lib.hid (HB3.out.grown hg4 HB3.out.size (fun j hj => by have e' : hb = j := Option.some.inj hj; have := HGE.out; omega))
    have HR4 := Lib.hid ((hg4.block _ hltb (by intro e; have e' : w.heap.size = hb := Option.some.inj e; have := HGE.out; omega)).trans HR3.out)
    have HK4 := Lib.hid (HK3.out.kept hg4 (.inr (fun e => HNE.out hb e rfl)))
    have HH4 := Lib.hid hh4
    have hL : L.length ≤ 9223372036854775807 := by
      obtain ⟨vs, h1, _⟩ := HP.out
      rcases h1.2 with ⟨_, h0⟩ | ⟨_, _, cap, _, _, hnc, hcm, _⟩
      · omega
      · unfold maxLen at hcm; omega
    clear hh4 hg4 hltb HB3 HR3 HK3 hgp HRA HBA HKEY
    go_wp2_with fail
    go_loopw [24] (fun i wr => ∃ j : Nat, j ≤ L.length ∧ i = .int .i64 j ∧ HashAt wr hb (p1 ++ (L.take j).flatten) ∧ Below w.heap.size w wr ∧ wr.heap[w.heap.size]? = some (.cells (bysA zeros32) 25 (0, 0)) ∧ Rd wr 1 (.slice (some ⟨w1.heap.size, 0, none⟩) 32 32) 32 (bys k)) (fun i _ => L.length - (intOf i).toNat)
    case atStart => exact ⟨0, Nat.zero_le _, rfl, by simpa using HH4.out, HB4.out, HR4.out, HK4.out⟩
    case round =>
      obtain ⟨j, hj, rfl, hhk, hbk, hrk, hkk⟩ := hrel
      have HTK := Lib.hid (HS.out.below hbk)
      have HHK := Lib.hid hhk
      have HRK := Lib.hid hrk
      have HKK := Lib.hid hkk
      clear hhk hrk hkk
      by_cases hlt : j < L.length
      · obtain ⟨vs, hv0, hv2⟩ := HP.out
        have hv1 := hv0.below hbk
        obtain ⟨b, off, rfl, hbl, hnc, hcm, hcell⟩ := Rd_lt hv1 (by omega)
        obtain ⟨qk, ck, hvk, hrdk0⟩ := hv2 j hlt
        have hck := hcell j _ hvk
        have hrdk := hrdk0.below hbk
        have hqk : (Value.slice qk (L.getD j []).length ck).ownBlock ≠ some hb := fun e => by have := Rd_own_lt hrdk0 e; have := HGE.out; omega
        clear hv0 hrdk0
        have hlen := flatten_take_le L j hlt
        have hfs := flatten_take_succ L j hlt
        obtain ⟨X, hX⟩ : ∃ X, X = L.getD j [] := ⟨_, rfl⟩
        obtain ⟨Y, hY⟩ : ∃ Y, Y = (L.take j).flatten := ⟨_, rfl⟩
        rw [← hX, ← hY] at hlen hfs
        rw [← hX] at hck hrdk hqk
        rw [← hY] at HHK
        have HFS := Lib.hid hfs
        have HX := Lib.hid hX
        have HRDK := Lib.hid hrdk
        have hlY : (p1 ++ Y).length + X.length ≤ 70368744177664 := by rw [List.length_append, HPL.out]; omega
        clear hfs hX hY hcell hv1 hv2 hvk hrdk
        go_wp2_with (go_at_call 34; go_must (refine (write_any hb (p1 ++ Y) X qk ck _ HTK.out HHK.out HRDK.out hqk hlY).mono ?_); rintro e w5 ⟨rfl, hh5, hg5⟩)
        have hlw : w.heap.size < wr.heap.size := lt_of_heap HRK.out
        refine ⟨⟨j + 1, by omega, rfl, ?_, ?_, ?_, ?_⟩, by simp [intOf]; omega⟩
        · rw [HFS.out, ← List.append_assoc]; exact hh5
        · exact hbk.grown hg5 hbk.size (fun i hi => by have e' : hb = i := Option.some.inj hi; have := HGE.out; omega)
        · exact (hg5.block _ hlw (by intro e; have e' : w.heap.size = hb := Option.some.inj e; have := HGE.out; omega)).trans HRK.out
        · exact HKK.out.kept hg5 (.inr (fun e => HNE.out hb e rfl))
      · obtain rfl : j = L.length := by omega
        have HTAKE : Hid ((L.take L.length).flatten = L.flatten) := Lib.hid (by rw [List.take_of_length_le (Nat.le_refl _)])
        rw [HTAKE.out] at HHK
        obtain ⟨A, hA⟩ : ∃ A, A = p1 ++ L.flatten := ⟨_, rfl⟩
        have hAl : A.length ≤ 70368744177664 := by rw [hA, List.length_append, HPL.out]; omega
        rw [← hA] at HHK
        have HA := Lib.hid hA
        have HLA := Lib.hid (sha_length A)
        have HI9 : Hid ((Tryd.prog.info? 25).map (·.size) = some (bysA (sha A)).size) := Lib.hid (by rw [bysA_size, sha_length]; exact info32)
        clear hA
        go_wp2_with fail
        refine (sum_some hb A _ HTK.out HHK.out hAl).mono ?_
        rintro e w6 ⟨rfl, hb6⟩
        have HB6 := Lib.hid (hbk.trans (hb6.mono hbk.size))
        have HR6 := Lib.hid (Rp.row_le hb6 HRK.out)
        have HK6 := Lib.hid (HKK.out.below hb6)
        clear hb6
        go_wp2_with (refine Rg.store_row_new rfl 25 _ _ rfl w6.heap.size rfl rfl 25 _ (bysA (sha A)) rfl HI9.out (by rw [bysA_size, HLA.out]; rfl) (bysA_one _) ?_)
        have hrow9 := Rg.heap_alloc_at w6 (.cells (bysA (sha A)) 25) w6.heap.size rfl
        have hba9 : Below w6.heap.size w6 (w6.alloc (.cells (bysA (sha A)) 25)) := (Below.refl _ _).alloc (Nat.le_refl _) _
        refine Rp.region 5 [(0, true), (2, true), (1, false), (3, false), (4, false)] (by kernel_rfl) (by kernel_rfl) ?_; simp only [Rp.pick, Rp.nth, List.drop_succ_cons, List.drop_zero]
        obtain ⟨wd, hwd⟩ : ∃ wd, wd = (w6.alloc (.cells (bysA (sha A)) 25)).drew := ⟨_, rfl⟩
        have hbd : Below w6.heap.size w6 wd := by rw [hwd]; exact hba9.drew
        have HBD := Lib.hid (HB6.out.trans (hbd.mono HB6.out.size))
        have HRD := Lib.hid (Rp.row_le hbd HR6.out)
        have HKD := Lib.hid (HK6.out.below hbd)
        have HR9 : Hid (wd.heap[w6.heap.size]? = some (.cells (bysA (sha A)) 25)) := Lib.hid (by rw [hwd]; exact hrow9)
        rw [← hwd]
        clear hwd hbd hba9 hrow9
        repeat (refine Rp.stepK rfl ?_; intro K hK; apply Exists.intro; refine ⟨?_, ?_⟩; (focus (intro x hx;  go_simp; (first | (fail) | ((try go_bits); (try go_simp); (try rfl))))); go_simp; refine hK _ ?_; clear hK K)
        refine Rp.stepF fun K hK => ?_; go_wp2_with fail; refine (pad_any _ _ _ k 92 _ HKN.out HKD.out hKl).mono ?_; rintro e w7 ⟨g7, rfl, hg7, hrow7, hb7⟩; go_wp2_with fail; refine hK _ _ hb7 ?_; clear hK K
        have hpl2 := padk_length k 92 hKl
        have HR7 := Lib.hid (Rd_of_row hrow7 hpl2 (by decide))
        have HRZ7 := Lib.hid (Rp.row_le hb7 HRD.out)
        have HS9 := Lib.hid (Rd_of_row (Rp.row_le hb7 HR9.out) HLA.out (by decide))
        have HB7 := Lib.hid (HBD.out.trans (hb7.mono HBD.out.size))
        obtain ⟨p2, hp2⟩ : ∃ p2, p2 = padk k 92 := ⟨_, rfl⟩
        rw [← hp2] at HR7 hpl2
        have HP2 := Lib.hid hp2
        have HPL2 := Lib.hid hpl2
        clear hp2 hb7 hrow7 hg7 hpl2
        go_simp
        refine Rp.stepF fun K hK => ?_
        go_wp2_with fail
        refine hK _ _ ((Below.refl _ _).alloc (Nat.le_refl _) _) ?_; clear hK K
        have hparts : Parts (w7.alloc (.cells #[.slice (some ⟨g7, 0, none⟩) 64 64, .slice (some ⟨w6.heap.size, 0, none⟩) 32 32] 28)) (.slice (some ⟨w7.heap.size, 0, none⟩) 2 2) [p2, sha A] :=
          Parts.lit2 w7 p2 (sha A) _ _ ⟨_, _, by rw [HPL2.out], by rw [HPL2.out]; exact HR7.out⟩ ⟨_, _, by rw [HLA.out], by rw [HLA.out]; exact HS9.out⟩
        have hb8 : Below w7.heap.size w7 (w7.alloc (.cells #[.slice (some ⟨g7, 0, none⟩) 64 64, .slice (some ⟨w6.heap.size, 0, none⟩) 32 32] 28)) := (Below.refl _ _).alloc (Nat.le_refl _) _
        refine Rp.stepF fun K hK => ?_; go_wp2_with fail; refine (parts_any _ _ [p2, sha A] _ (HS.out.below (HB7.out.trans (hb8.mono HB7.out.size))) hparts (by simp [HPL2.out, HLA.out])).mono ?_; rintro e w9 ⟨rfl, hb9⟩; go_wp2_with fail; refine hK _ _ hb9 ?_; clear hK K
        have hb10 : Below w7.heap.size w7 w9 := hb8.trans (hb9.mono hb8.size)
        have HB9 := Lib.hid (HB7.out.trans (hb10.mono HB7.out.size))
        have HRZ9 := Lib.hid (Rp.row_le hb10 HRZ7.out)
        have hres : sha (p2 ++ sha A) = hmac l L.flatten := by
          unfold hmac
          rw [← HKE.out, HP2.out, HA.out, HP1.out]
        rw [hres]
        have HM := Lib.hid (hmac_length l L.flatten)
        have HIM : Hid ((Tryd.prog.info? 25).map (·.size) = some (bysA (hmac l L.flatten)).size) := Lib.hid (by rw [bysA_size, HM.out]; exact info32)
        clear hres hb8 hb9 hb10 hparts
        obtain ⟨R, hR⟩ : ∃ R, R = hmac l L.flatten := ⟨_, rfl⟩
        rw [← hR] at HM HIM ⊢
        have HRR := Lib.hid hR
        clear hR
        go_simp
        refine Rp.done ?_
        go_wp2_with (refine Rg.store_row rfl 25 _ _ rfl w.heap.size rfl 25 (bysA zeros32) (bysA R) rfl HRZ9.out HIM.out (by rw [bysA_size, bysA_size, HM.out]; rfl) (bysA_one _) ?_)
        refine NoPanic.normal ?_
        go_wp2_with fail
        refine bodyPost_ret (v := .agg (bysA R)) (results_cell_row (P := Tryd.prog) rfl _ _ w.heap.size 25 (bysA R) (0, 0) _ rfl (setRow_heap _ _ _ _ 25 _ HRZ9.out) Tryd.underlying25 rfl HIM.out) rfl ⟨by rw [HRR.out], ?_⟩
        exact Rg.below_setRow HB9.out (Nat.le_refl _) _
  · go_enter Tryd.func39, Tryd.ntmps39
    have h64' : ¬ (64 < (l.length : Int)) := by omega
    go_wp2_with fail
    rw [z32]
    have HBA : Hid (Below w.heap.size w (w.alloc (.cells (bysA zeros32) 25))) := Lib.hid ((Below.refl _ _).alloc (Nat.le_refl _) _)
    have HRA : Hid ((w.alloc (.cells (bysA zeros32) 25)).heap[w.heap.size]? = some (.cells (bysA zeros32) 25 (0, 0))) := Lib.hid (Rg.heap_alloc_at w _ _ rfl)
    have hkl : macKey l = l := by unfold macKey; rw [if_neg h64]
    have HKEY : Hid (Rd (w.alloc (.cells (bysA zeros32) 25)) 1 (.slice q l.length c) l.length (bys (macKey l))) := Lib.hid (by rw [hkl]; exact HL.out.below HBA.out)
    have HKN : Hid ((macKey l).length = l.length) := Lib.hid (by rw [hkl])
    obtain ⟨wa, hwa⟩ : ∃ wa, wa = w.alloc (.cells (bysA zeros32) 25) := ⟨_, rfl⟩
    rw [← hwa] at HKEY HRA HBA ⊢
    clear hkl hwa
    have hKl := macKey_length l
    obtain ⟨k, hk⟩ : ∃ k, k = macKey l := ⟨_, rfl⟩
    rw [← hk] at HKEY hKl HKN
    have HKE := Lib.hid hk
    clear hk
    go_wp2_with fail
    refine (new_any _ (HS.out.below HBA.out)).mono ?_
    rintro e w2 ⟨hb, rfl, hh, hge, hb2⟩
    have HGE : Hid (w.heap.size < hb) := Lib.hid (Nat.lt_of_lt_of_le (lt_of_heap HRA.out) hge)
    have HHH := Lib.hid hh
    have HB2 := Lib.hid (HBA.out.trans (hb2.mono HBA.out.size))
    have HR2 := Lib.hid (Rp.row_le hb2 HRA.out)
    have HNE : Hid (∀ j, Value.ownBlock (.slice q l.length c) = some j → j ≠ hb) := Lib.hid (fun j hj => by have := Rd_own_lt HKEY.out hj; omega)
    have HK2 := Lib.hid (HKEY.out.below hb2)
    clear hh hge hb2
    go_wp2_with fail
    refine (pad_any _ _ _ k 54 _ HKN.out HK2.out hKl).mono ?_
    rintro e w3 ⟨gp, rfl, hgp, hrowp, hb3⟩
    have hpl := padk_length k 54 hKl
    have hrp := Rd_of_row hrowp hpl (by decide)
    have hlt := HashAt.lt HHH.out
    have hh3 := HashAt.below HHH.out hb3
    have hne3 : (Value.slice (some ⟨gp, 0, none⟩) 64 64).ownBlock ≠ some hb := fun e => by
      have e' : gp = hb := by simpa [Value.ownBlock] using e
      omega
    have HB3 := Lib.hid (HB2.out.trans (hb3.mono HB2.out.size))
    have HR3 := Lib.hid (Rp.row_le hb3 HR2.out)
    have HK3 := Lib.hid (HK2.out.below hb3)
    obtain ⟨p1, hp1⟩ : ∃ p1, p1 = padk k 54 := ⟨_, rfl⟩
    rw [← hp1] at hrp hpl
    have HP1 := Lib.hid hp1
    have hw := write_any hb [] p1 (some ⟨gp, 0, none⟩) 64 w3 (HS.out.below HB3.out) hh3 (by rw [hpl]; exact hrp) (by rw [hpl]; exact hne3) (by rw [hpl]; simp)
    rw [hpl, List.nil_append] at hw
    have HPL := Lib.hid hpl
    clear hp1 hb3 hrowp HR2 HB2 HHH HK2 hpl hrp hh3 hne3 hlt
    go_wp2_with fail
    refine hw.mono ?_
    clear hw
    rintro e w4 ⟨rfl, hh4, hg4⟩
    have hltb := lt_of_heap HR3.out
    have HB4 := Lib.hid (HB3.out.grown hg4 HB3.out.size (fun j hj => by have e' : hb = j := Option.some.inj hj; have := HGE.out; omega))
    have HR4 := Lib.hid ((hg4.block _ hltb (by intro e; have e' : w.heap.size = hb := Option.some.inj e; have := HGE.out; omega)).trans HR3.out)
    have HK4 := Lib.hid (HK3.out.kept hg4 (.inr (fun e => HNE.out hb e rfl)))
    have HH4 := Lib.hid hh4
    have hL : L.length ≤ 9223372036854775807 := by
      obtain ⟨vs, h1, _⟩ := HP.out
      rcases h1.2 with ⟨_, h0⟩ | ⟨_, _, cap, _, _, hnc, hcm, _⟩
      · omega
      · unfold maxLen at hcm; omega
    clear hh4 hg4 hltb HB3 HR3 HK3 hgp HRA HBA HKEY
    go_wp2_with fail
    go_loopw [24] (fun i wr => ∃ j : Nat, j ≤ L.length ∧ i = .int .i64 j ∧ HashAt wr hb (p1 ++ (L.take j).flatten) ∧ Below w.heap.size w wr ∧ wr.heap[w.heap.size]? = some (.cells (bysA zeros32) 25 (0, 0)) ∧ Rd wr 1 (.slice q l.length c) l.length (bys k)) (fun i _ => L.length - (intOf i).toNat)
    case atStart => exact ⟨0, Nat.zero_le _, rfl, by simpa using HH4.out, HB4.out, HR4.out, HK4.out⟩
    case round =>
      obtain ⟨j, hj, rfl, hhk, hbk, hrk, hkk⟩ := hrel
      have HTK := Lib.hid (HS.out.below hbk)
      have HHK := Lib.hid hhk
      have HRK := Lib.hid hrk
      have HKK := Lib.hid hkk
      clear hhk hrk hkk
      by_cases hlt : j < L.length
      · obtain ⟨vs, hv0, hv2⟩ := HP.out
        have hv1 := hv0.below hbk
        obtain ⟨b, off, rfl, hbl, hnc, hcm, hcell⟩ := Rd_lt hv1 (by omega)
        obtain ⟨qk, ck, hvk, hrdk0⟩ := hv2 j hlt
        have hck := hcell j _ hvk
        have hrdk := hrdk0.below hbk
        have hqk : (Value.slice qk (L.getD j []).length ck).ownBlock ≠ some hb := fun e => by have := Rd_own_lt hrdk0 e; have := HGE.out; omega
        clear hv0 hrdk0
        have hlen := flatten_take_le L j hlt
        have hfs := flatten_take_succ L j hlt
        obtain ⟨X, hX⟩ : ∃ X, X = L.getD j [] := ⟨_, rfl⟩
        obtain ⟨Y, hY⟩ : ∃ Y, Y = (L.take j).flatten := ⟨_, rfl⟩
        rw [← hX, ← hY] at hlen hfs
        rw [← hX] at hck hrdk hqk
        rw [← hY] at HHK
        have HFS := Lib.hid hfs
        have HX := Lib.hid hX
        have HRDK := Lib.hid hrdk
        have hlY : (p1 ++ Y).length + X.length ≤ 70368744177664 := by rw [List.length_append, HPL.out]; omega
        clear hfs hX hY hcell hv1 hv2 hvk hrdk
        go_wp2_with (go_at_call 34; go_must (refine (write_any hb (p1 ++ Y) X qk ck _ HTK.out HHK.out HRDK.out hqk hlY).mono ?_); rintro e w5 ⟨rfl, hh5, hg5⟩)
        have hlw : w.heap.size < wr.heap.size := lt_of_heap HRK.out
        refine ⟨⟨j + 1, by omega, rfl, ?_, ?_, ?_, ?_⟩, by simp [intOf]; omega⟩
        · rw [HFS.out, ← List.append_assoc]; exact hh5
        · exact hbk.grown hg5 hbk.size (fun i hi => by have e' : hb = i := Option.some.inj hi; have := HGE.out; omega)
        · exact (hg5.block _ hlw (by intro e; have e' : w.heap.size = hb := Option.some.inj e; have := HGE.out; omega)).trans HRK.out
        · exact HKK.out.kept hg5 (.inr (fun e => HNE.out hb e rfl))
      · obtain rfl : j = L.length := by omega
        have HTAKE : Hid ((L.take L.length).flatten = L.flatten) := Lib.hid (by rw [List.take_of_length_le (Nat.le_refl _)])
        rw [HTAKE.out] at HHK
        obtain ⟨A, hA⟩ : ∃ A, A = p1 ++ L.flatten := ⟨_, rfl⟩
        have hAl : A.length ≤ 70368744177664 := by rw [hA, List.length_append, HPL.out]; omega
        rw [← hA] at HHK
        have HA := Lib.hid hA
        have HLA := Lib.hid (sha_length A)
        have HI9 : Hid ((Tryd.prog.info? 25).map (·.size) = some (bysA (sha A)).size) := Lib.hid (by rw [bysA_size, sha_length]; exact info32)
        clear hA
        go_wp2_with fail
        refine (sum_some hb A _ HTK.out HHK.out hAl).mono ?_
        rintro e w6 ⟨rfl, hb6⟩
        have HB6 := Lib.hid (hbk.trans (hb6.mono hbk.size))
        have HR6 := Lib.hid (Rp.row_le hb6 HRK.out)
        have HK6 := Lib.hid (HKK.out.below hb6)
        clear hb6
        go_wp2_with (refine Rg.store_row_new rfl 25 _ _ rfl w6.heap.size rfl rfl 25 _ (bysA (sha A)) rfl HI9.out (by rw [bysA_size, HLA.out]; rfl) (bysA_one _) ?_)
        have hrow9 := Rg.heap_alloc_at w6 (.cells (bysA (sha A)) 25) w6.heap.size rfl
        have hba9 : Below w6.heap.size w6 (w6.alloc (.cells (bysA (sha A)) 25)) := (Below.refl _ _).alloc (Nat.le_refl _) _
        refine Rp.region 5 [(0, true), (2, true), (1, false), (3, false), (4, false)] (by kernel_rfl) (by kernel_rfl) ?_; simp only [Rp.pick, Rp.nth, List.drop_succ_cons, List.drop_zero]
        obtain ⟨wd, hwd⟩ : ∃ wd, wd = (w6.alloc (.cells (bysA (sha A)) 25)).drew := ⟨_, rfl⟩
        have hbd : Below w6.heap.size w6 wd := by rw [hwd]; exact hba9.drew
        have HBD := Lib.hid (HB6.out.trans (hbd.mono HB6.out.size))
        have HRD := Lib.hid (Rp.row_le hbd HR6.out)
        have HKD := Lib.hid (HK6.out.below hbd)
        have HR9 : Hid (wd.heap[w6.heap.size]? = some (.cells (bysA (sha A)) 25)) := Lib.hid (by rw [hwd]; exact hrow9)
        rw [← hwd]
        clear hwd hbd hba9 hrow9
        repeat (refine Rp.stepK rfl ?_; intro K hK; apply Exists.intro; refine ⟨?_, ?_⟩; (focus (intro x hx;  go_simp; (first | (fail) | ((try go_bits); (try go_simp); (try rfl))))); go_simp; refine hK _ ?_; clear hK K)
        refine Rp.stepF fun K hK => ?_; go_wp2_with fail; refine (pad_any _ _ _ k 92 _ HKN.out HKD.out hKl).mono ?_; rintro e w7 ⟨g7, rfl, hg7, hrow7, hb7⟩; go_wp2_with fail; refine hK _ _ hb7 ?_; clear hK K
        have hpl2 := padk_length k 92 hKl
        have HR7 := Lib.hid (Rd_of_row hrow7 hpl2 (by decide))
        have HRZ7 := Lib.hid (Rp.row_le hb7 HRD.out)
        have HS9 := Lib.hid (Rd_of_row (Rp.row_le hb7 HR9.out) HLA.out (by decide))
        have HB7 := Lib.hid (HBD.out.trans (hb7.mono HBD.out.size))
        obtain ⟨p2, hp2⟩ : ∃ p2, p2 = padk k 92 := ⟨_, rfl⟩
        rw [← hp2] at HR7 hpl2
        have HP2 := Lib.hid hp2
        have HPL2 := Lib.hid hpl2
        clear hp2 hb7 hrow7 hg7 hpl2
        go_simp
        refine Rp.stepF fun K hK => ?_
        go_wp2_with fail
        refine hK _ _ ((Below.refl _ _).alloc (Nat.le_refl _) _) ?_; clear hK K
        have hparts : Parts (w7.alloc (.cells #[.slice (some ⟨g7, 0, none⟩) 64 64, .slice (some ⟨w6.heap.size, 0, none⟩) 32 32] 28)) (.slice (some ⟨w7.heap.size, 0, none⟩) 2 2) [p2, sha A] :=
          Parts.lit2 w7 p2 (sha A) _ _ ⟨_, _, by rw [HPL2.out], by rw [HPL2.out]; exact HR7.out⟩ ⟨_, _, by rw [HLA.out], by rw [HLA.out]; exact HS9.out⟩
        have hb8 : Below w7.heap.size w7 (w7.alloc (.cells #[.slice (some ⟨g7, 0, none⟩) 64 64, .slice (some ⟨w6.heap.size, 0, none⟩) 32 32] 28)) := (Below.refl _ _).alloc (Nat.le_refl _) _
        refine Rp.stepF fun K hK => ?_; go_wp2_with fail; refine (parts_any _ _ [p2, sha A] _ (HS.out.below (HB7.out.trans (hb8.mono HB7.out.size))) hparts (by simp [HPL2.out, HLA.out])).mono ?_; rintro e w9 ⟨rfl, hb9⟩; go_wp2_with fail; refine hK _ _ hb9 ?_; clear hK K
        have hb10 : Below w7.heap.size w7 w9 := hb8.trans (hb9.mono hb8.size)
        have HB9 := Lib.hid (HB7.out.trans (hb10.mono HB7.out.size))
        have HRZ9 := Lib.hid (Rp.row_le hb10 HRZ7.out)
        have hres : sha (p2 ++ sha A) = hmac l L.flatten := by
          unfold hmac
          rw [← HKE.out, HP2.out, HA.out, HP1.out]
        rw [hres]
        have HM := Lib.hid (hmac_length l L.flatten)
        have HIM : Hid ((Tryd.prog.info? 25).map (·.size) = some (bysA (hmac l L.flatten)).size) := Lib.hid (by rw [bysA_size, HM.out]; exact info32)
        clear hres hb8 hb9 hb10 hparts
        obtain ⟨R, hR⟩ : ∃ R, R = hmac l L.flatten := ⟨_, rfl⟩
        rw [← hR] at HM HIM ⊢
        have HRR := Lib.hid hR
        clear hR
        go_simp
        refine Rp.done ?_
        go_wp2_with (refine Rg.store_row rfl 25 _ _ rfl w.heap.size rfl 25 (bysA zeros32) (bysA R) rfl HRZ9.out HIM.out (by rw [bysA_size, bysA_size, HM.out]; rfl) (bysA_one _) ?_)
        refine NoPanic.normal ?_
        go_wp2_with fail
        refine bodyPost_ret (v := .agg (bysA R)) (results_cell_row (P := Tryd.prog) rfl _ _ w.heap.size 25 (bysA R) (0, 0) _ rfl (setRow_heap _ _ _ _ 25 _ HRZ9.out) Tryd.underlying25 rfl HIM.out) rfl ⟨by rw [HRR.out], ?_⟩
        exact Rg.below_setRow HB9.out (Nat.le_refl _) _
end Ref
end Go.Proofs.YtmcjjionfmdioaaDoor

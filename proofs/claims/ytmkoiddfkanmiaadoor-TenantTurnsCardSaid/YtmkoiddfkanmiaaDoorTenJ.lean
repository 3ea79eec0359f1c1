/- The walk of TenantTurns. -/
import Derived.Test.YtmkoiddfkanmiaaDoorTenI
import Derived.Test.YtmkoiddfkanmiaaDoorCadI
import Derived.LaidEqlPtr
namespace Go.Proofs.YtmkoiddfkanmiaaDoor
open Go.RowKit Bits Mem Sha Cad
namespace Mem
theorem Rd.cutT {w : World} {s n k c : Nat} {q : Option Addr} {xs : List Value} (h : Rd w s (.slice q n c) n xs) (hk : k ≤ n) : Rd w s (.slice q k c) k (xs.take (k * s)) := by
  have hx := h.1
  have hks : k * s ≤ n * s := Nat.mul_le_mul_right _ hk
  refine ⟨by rw [List.length_take]; omega, ?_⟩
  rcases h.2 with ⟨hv, h0⟩ | ⟨b', off', cap, hv, hb, hnc, hcm, hc⟩
  · cases hv
    obtain rfl : k = 0 := by omega
    exact .inl ⟨rfl, rfl⟩
  · cases hv
    exact .inr ⟨_, _, _, rfl, hb, by omega, hcm, fun j u hu => hc j u (by rw [List.getElem?_take] at hu; split at hu; exact hu; cases hu)⟩
end Mem
namespace Ten
theorem theT_me (id : List UInt8) (s pl : Int) (d : Option Addr) : theT [⟨id, s, pl, d⟩] id = some ⟨id, s, pl, d⟩ := by simp [theT, has, place, foundAt, core, cmpB_self]
theorem place_me (id : List UInt8) (s pl : Int) (d : Option Addr) : place ([(⟨id, s, pl, d⟩ : Ten)].map core) id = 0 := by simp [place, core, cmpB_self]
theorem make_me (id : List UInt8) (d : Option Addr) (h1 : 1 ≤ id.length) (h2 : id.length ≤ 16) : makeT [] id d 3 = ((0, 0), [⟨id, 1, 0, d⟩]) := by unfold makeT; rw [if_neg (by omega)]; rfl
theorem hold_me (id : List UInt8) (pl : Int) (d : Option Addr) : turnT [⟨id, 1, pl, d⟩] id 2 = (0, [⟨id, 2, pl, d⟩]) := by unfold turnT; rw [theT_me, place_me]; rfl
theorem hold_me2 (id : List UInt8) (pl : Int) (d : Option Addr) : turnT [⟨id, 2, pl, d⟩] id 2 = (12, [⟨id, 2, pl, d⟩]) := by unfold turnT; rw [theT_me]; rfl
theorem free_me (id : List UInt8) (pl : Int) (d : Option Addr) : turnT [⟨id, 2, pl, d⟩] id 1 = (0, [⟨id, 1, pl, d⟩]) := by unfold turnT; rw [theT_me, place_me]; rfl
theorem free_me2 (id : List UInt8) (pl : Int) (d : Option Addr) : turnT [⟨id, 1, pl, d⟩] id 1 = (12, [⟨id, 1, pl, d⟩]) := by unfold turnT; rw [theT_me]; rfl
theorem state_me (id : List UInt8) (s pl : Int) (d : Option Addr) : stateT [⟨id, s, pl, d⟩] id = s := by unfold stateT; rw [theT_me]
theorem get_me (id : List UInt8) (pl : Int) (d : Option Addr) (b : Bool) : getT [⟨id, 1, pl, d⟩] id b = (d, 0) := by unfold getT; rw [theT_me]; rfl
theorem get_me2 (id : List UInt8) (pl : Int) (d : Option Addr) : getT [⟨id, 2, pl, d⟩] id true = (d, 0) := by unfold getT; rw [theT_me]; rfl
theorem get_me3 (id : List UInt8) (pl : Int) (d : Option Addr) : getT [⟨id, 2, pl, d⟩] id false = (none, 12) := by unfold getT; rw [theT_me]; rfl
theorem place_me2 (id : List UInt8) (pl : Int) (d : Option Addr) : placeT [⟨id, 1, pl, d⟩] id = (pl, 0) := by unfold placeT; rw [theT_me]; rfl
theorem dirSame (g : Nat) : (∀ w : World, (binOp .eql 48 (.pointer (some ⟨g, 0, none⟩)) (.pointer (some ⟨g, 0, none⟩))).run Tryd.prog w = .ok (.bool true) w) ∧ (∀ w : World, (binOp .neq 48 (.pointer (some ⟨g, 0, none⟩)) (.pointer (some ⟨g, 0, none⟩))).run Tryd.prog w = .ok (.bool false) w) := by
  obtain ⟨j, hj⟩ : ∃ j, Tryd.prog.info? 121 = some j := Option.isSome_iff_exists.1 (by kernel_rfl)
  refine ⟨fun w => run_eql_ptr_same w _ Tryd.underlying48 hj, fun w => ?_⟩
  have h : ∀ d : Nat, (Op.equalIn (d + 1) 48 (.pointer (some ⟨g, 0, none⟩)) (.pointer (some ⟨g, 0, none⟩))).run Tryd.prog w = .ok true w := fun d => by
    simp [Op.equalIn, run_underlying Tryd.underlying48, sizeOf, typeInfo, hj, run_sameAddr_same]
  simp only [binOp]
  simp [Op.equal, Op.maxDepth, h 9999]
def K9 : List UInt8 := 9 :: List.replicate 63 0
def K9a : List UInt8 := 9 :: List.replicate 31 0
theorem keys9a : Tryd.prog.built 42 [(0, .int .u8 9)] = some (bysA K9a) := by kernel_rfl
theorem keys9 : Tryd.prog.built 44 [(0, .agg (bysA K9a))] = some (bysA K9) := by kernel_rfl
set_option maxRecDepth 100000 in
set_option maxHeartbeats 2000000 in
theorem tenantTurns_any (q : Option Addr) (c : Nat) (l : List UInt8) (n : Int) (w : World) (hS : Sha.Tabs w) (hl : Rd w 1 (.slice q l.length c) l.length (bys l)) : Calls Tryd.prog 5 #[.slice q l.length c, .int .i64 n] w fun e w' => e = .returned (.bool true) ∧ Below w.heap.size w w' := by
  obtain ⟨i0, hi0, hz0, hz1, hz2⟩ := parts3M infoU8T
  have hc : l.length ≤ c := by
    rcases hl.2 with ⟨hv, h0⟩ | ⟨b, off, cap, hv, _, hle, _⟩
    · injection hv with _ h1 h2; omega
    · injection hv with _ h1 h2; omega
  have HL : Hid (Rd w 1 (.slice q l.length c) l.length (bys l)) := Lib.hid hl
  have HS := Lib.hid hS
  obtain ⟨wl, hwl⟩ : ∃ wl, wl = w.alloc (.cells #[.int .u8 105] 5) := ⟨_, rfl⟩
  have hbl : Below w.heap.size w wl := by rw [hwl]; exact (Below.refl _ _).alloc (Nat.le_refl _) _
  have HO0 : Hid (Ow wl w.heap.size 5 1 (.slice (some ⟨w.heap.size, 0, none⟩) 1 1) 1 (bys [105])) := Lib.hid (by rw [hwl]; exact Ow.lit w #[.int .u8 105] 5 1 1 w.heap.size (Nat.le_refl _) (by decide) rfl)
  have HBL := Lib.hid hbl
  have HWL := Lib.hid hwl
  have hsz := hbl.size
  obtain ⟨T, hT, _, eT⟩ := modcad n 5 (by decide) (by decide)
  have eT' : wrap64 ((IntKind.u64.wrap n).tmod 5) = (T : Int) := eT
  clear hbl hwl hS hl eT
  by_cases h15 : 15 < l.length
  · have HLL : Hid (Rd wl 1 (.slice q 15 c) 15 (bys (l.take 15))) := Lib.hid (by have := (HL.out.below HBL.out).cutT (k := 15) (by omega); rwa [Nat.mul_one, show (bys l).take 15 = bys (l.take 15) from by simp [bys, List.map_take]] at this)
    have h15c : 15 ≤ c := by omega
    go_enter Tryd.func5, Tryd.ntmps5
    go_wp2_with (at_builtin; go_must (rw [← HWL.out]); go_must (refine app_ow3 rfl _ _ 24 24 rfl w.heap.size 5 i0 (.int .u8 0) 1 1 Tryd.underlying24 hi0 hz0 hz1 hz2 (by rfl) _ 1 _ rfl HO0.out 15 _ rfl (Rd.src Tryd.underlying24 HLL.out (bys_one _)) (by unfold maxLen; omega) (by omega) hsz ?_); go_must (intro v4 w4 how4 hg4 hn4); go_must (obtain ⟨q4, c4, rfl⟩ := Ow_form how4); go_must (refine Hid.out ?_))
    refine Lib.hid ?_
    obtain ⟨id, hid⟩ : ∃ id, id = (105 : UInt8) :: (l.take 15) := ⟨_, rfl⟩
    have hidl0 : 1 + 15 = id.length := by rw [hid, List.length_cons]; (try rw [List.length_take]); omega
    have hidl : 16 = id.length := hidl0
    have hid1 : 1 ≤ id.length := by omega
    have hid2 : id.length ≤ 16 := by omega
    have hcell : bys [105] ++ bys (l.take 15) = bys id := by rw [hid]; rfl
    rw [hidl0, hcell] at how4
    rw [hidl]
    have HI : Hid (Rd w4 1 (.slice q4 id.length c4) id.length (bys id)) := Lib.hid (Rd.of_ow how4)
    have HB4 : Hid (Below w.heap.size w w4) := Lib.hid (HBL.out.grown hg4 HBL.out.size (fun k hk => by cases hk; exact Nat.le_refl _))
    clear hid hidl hidl0 hcell how4 hg4 hn4 HLL HL HO0 HWL HBL hsz
    go_wp2_with fail
    refine (newTab_any 3 (by decide) (by decide) w4).mono ?_
    rintro e w5 ⟨rfl, hw⟩
    obtain ⟨sb, hsb⟩ : ∃ sb, sb = w4.heap.size := ⟨_, rfl⟩
    have hs5 : w5.heap.size = sb + 1 := by rw [hw, hsb]; exact Array.size_push _
    have HB5 : Hid (Below w4.heap.size w4 w5) := Lib.hid (by rw [hw]; exact (Below.refl _ _).alloc (Nat.le_refl _) _)
    have HT5 : Hid (TabAt w5 sb (sb + 1) none 0 ((3 : Nat) : Int) []) := Lib.hid ⟨by rw [hw, hsb]; exact heap_alloc_new w4 _, by omega, Ow.nil _ _ _ _⟩
    have HSB := Lib.hid hsb
    have HSW : Hid (sb + 1 ≤ w5.heap.size) := Lib.hid (by omega)
    rw [← hsb]
    clear hw hsb hs5
    go_wp2_with (first | (refine l_buildT rfl 42 _ rfl (bysA K9a) keys9a ?_) | (refine l_buildT rfl 44 _ rfl (bysA K9) keys9 ?_))
    refine (limits_any w5).mono ?_
    rintro e wn ⟨rfl, hb⟩
    have HBN : Hid (Below w4.heap.size w4 wn) := Lib.hid (HB5.out.trans (hb.mono HB5.out.size))
    have HCR := Lib.hid (createT_any sb (sb + 1) none 0 3 [] q4 c4 id K9 wn (HS.out.below (HB4.out.trans (HBN.out.mono HB4.out.size))) rfl (HT5.out.below hb) (by simp) srt_nilT (HI.out.below HBN.out) (fun k hk he => by cases he) (Nat.le_trans HSW.out hb.size) (by decide) (by decide) (pl_nil 3))
    clear hb
    go_wp2_with fail
    refine HCR.out.mono ?_
    rintro e w6 ⟨g2, q2, c2, rfl, hT, hkp, hgz⟩
    rw [make_me id _ hid1 hid2] at hT ⊢
    have HBW : Hid (Below w4.heap.size w4 w6) := Lib.hid (below_kp HBN.out hkp (fun j hj => by
      rcases hj with rfl | hj
      · rw [HSB.out]; exact Nat.le_refl _
      · cases hj))
    have HTT := Lib.hid hT
    clear hT hkp hgz HCR HBN HT5 HB5 HSW
    go_wp2_with fail
    have HRD := Lib.hid (getD_any sb (sb + 1) q2 c2 ((3 : Nat) : Int) [⟨id, 1, 0, some ⟨g2, 0, none⟩⟩] q4 c4 id false w6 HTT.out (by simp) (srt_one _) (HI.out.below HBW.out))
    refine HRD.out.mono ?_
    rintro e w7 ⟨rfl, hb⟩
    rw [get_me]
    have hto := Lib.hid (HTT.out.below hb)
    have hbo := Lib.hid (HBW.out.trans (hb.mono HBW.out.size))
    clear hb HTT HBW HRD
    have HTT := hto
    have HBW := hbo
    clear hto hbo
    go_wp2_with fail
    refine (tables_any w7 (HS.out.below (HB4.out.trans (HBW.out.mono HB4.out.size)))).mono ?_
    rintro e w8 ⟨rfl, hb⟩
    have hto := Lib.hid (HTT.out.below hb)
    have hbo := Lib.hid (HBW.out.trans (hb.mono HBW.out.size))
    clear hb HTT HBW
    have HTT := hto
    have HBW := hbo
    clear hto hbo
    go_wp2_with fail
    rw [eT']
    go_loopw [11] (fun nv wr => ∃ r : Int, -1 ≤ r ∧ r ≤ 4 ∧ nv = .int .i64 r ∧ Hid (TabAt wr sb (sb + 1) q2 c2 ((3 : Nat) : Int) [⟨id, 1, 0, some ⟨g2, 0, none⟩⟩]) ∧ Hid (Below w4.heap.size w4 wr)) (fun nv _ => (intOf nv + 1).toNat)
    case atStart => exact ⟨T, by omega, by omega, rfl, HTT, HBW⟩
    case round =>
      clear HTT HBW
      obtain ⟨r, hr0, hr1, rfl, HTT, HBW⟩ := hrel
      obtain ⟨hde, hdn⟩ := dirSame g2
      by_cases hlt : 0 ≤ r
      · go_wp2_with fail
        have HT0 := Lib.hid (HTT.out)
        clear HTT
        have HST := Lib.hid (holdT_any sb (sb + 1) q2 c2 ((3 : Nat) : Int) [⟨id, 1, 0, some ⟨g2, 0, none⟩⟩] q4 c4 id wr HT0.out (by simp) (srt_one _) (HI.out.below HBW.out))
        refine HST.out.mono ?_
        rintro e wa ⟨rfl, hT, hkp⟩
        rw [hold_me] at hT ⊢
        have hbo : Hid (Below w4.heap.size w4 wa) := Lib.hid (below_kp HBW.out hkp (fun j hj => by
          rcases hj with rfl | hj
          · rw [HSB.out]; exact Nat.le_refl _
          · have := (HT0.out.2.2.lt _ hj).1; rw [← HSB.out]; omega))
        have HTT := Lib.hid hT
        clear hT hkp HST HT0 HBW
        have HBW := hbo
        clear hbo
        go_wp2_with fail
        have HT0 := Lib.hid (HTT.out)
        clear HTT
        have HST := Lib.hid (holdT_any sb (sb + 1) q2 c2 ((3 : Nat) : Int) [⟨id, 2, 0, some ⟨g2, 0, none⟩⟩] q4 c4 id wa HT0.out (by simp) (srt_one _) (HI.out.below HBW.out))
        refine HST.out.mono ?_
        rintro e wb ⟨rfl, hT, hkp⟩
        rw [hold_me2] at hT ⊢
        have hbo : Hid (Below w4.heap.size w4 wb) := Lib.hid (below_kp HBW.out hkp (fun j hj => by
          rcases hj with rfl | hj
          · rw [HSB.out]; exact Nat.le_refl _
          · have := (HT0.out.2.2.lt _ hj).1; rw [← HSB.out]; omega))
        have HTT := Lib.hid hT
        clear hT hkp HST HT0 HBW
        have HBW := hbo
        clear hbo
        go_wp2_with fail
        have HRD := Lib.hid (stateT_any sb (sb + 1) q2 c2 ((3 : Nat) : Int) [⟨id, 2, 0, some ⟨g2, 0, none⟩⟩] q4 c4 id  wb HTT.out (by simp) (srt_one _) (HI.out.below HBW.out))
        refine HRD.out.mono ?_
        rintro e wc ⟨rfl, hb⟩
        rw [state_me]
        have hto := Lib.hid (HTT.out.below hb)
        have hbo := Lib.hid (HBW.out.trans (hb.mono HBW.out.size))
        clear hb HTT HBW HRD
        have HTT := hto
        have HBW := hbo
        clear hto hbo
        go_wp2_with fail
        have HRD := Lib.hid (getD_any sb (sb + 1) q2 c2 ((3 : Nat) : Int) [⟨id, 2, 0, some ⟨g2, 0, none⟩⟩] q4 c4 id true wc HTT.out (by simp) (srt_one _) (HI.out.below HBW.out))
        refine HRD.out.mono ?_
        rintro e wd ⟨rfl, hb⟩
        rw [get_me2]
        have hto := Lib.hid (HTT.out.below hb)
        have hbo := Lib.hid (HBW.out.trans (hb.mono HBW.out.size))
        clear hb HTT HBW HRD
        have HTT := hto
        have HBW := hbo
        clear hto hbo
        go_wp2_with fail
        have HRD := Lib.hid (getD_any sb (sb + 1) q2 c2 ((3 : Nat) : Int) [⟨id, 2, 0, some ⟨g2, 0, none⟩⟩] q4 c4 id false wd HTT.out (by simp) (srt_one _) (HI.out.below HBW.out))
        refine HRD.out.mono ?_
        rintro e we ⟨rfl, hb⟩
        rw [get_me3]
        have hto := Lib.hid (HTT.out.below hb)
        have hbo := Lib.hid (HBW.out.trans (hb.mono HBW.out.size))
        clear hb HTT HBW HRD
        have HTT := hto
        have HBW := hbo
        clear hto hbo
        go_wp2_with fail
        have HT0 := Lib.hid (HTT.out)
        clear HTT
        have HST := Lib.hid (freeT_any sb (sb + 1) q2 c2 ((3 : Nat) : Int) [⟨id, 2, 0, some ⟨g2, 0, none⟩⟩] q4 c4 id we HT0.out (by simp) (srt_one _) (HI.out.below HBW.out))
        refine HST.out.mono ?_
        rintro e wf ⟨rfl, hT, hkp⟩
        rw [free_me] at hT ⊢
        have hbo : Hid (Below w4.heap.size w4 wf) := Lib.hid (below_kp HBW.out hkp (fun j hj => by
          rcases hj with rfl | hj
          · rw [HSB.out]; exact Nat.le_refl _
          · have := (HT0.out.2.2.lt _ hj).1; rw [← HSB.out]; omega))
        have HTT := Lib.hid hT
        clear hT hkp HST HT0 HBW
        have HBW := hbo
        clear hbo
        go_wp2_with fail
        have HT0 := Lib.hid (HTT.out)
        clear HTT
        have HST := Lib.hid (freeT_any sb (sb + 1) q2 c2 ((3 : Nat) : Int) [⟨id, 1, 0, some ⟨g2, 0, none⟩⟩] q4 c4 id wf HT0.out (by simp) (srt_one _) (HI.out.below HBW.out))
        refine HST.out.mono ?_
        rintro e wg ⟨rfl, hT, hkp⟩
        rw [free_me2] at hT ⊢
        have hbo : Hid (Below w4.heap.size w4 wg) := Lib.hid (below_kp HBW.out hkp (fun j hj => by
          rcases hj with rfl | hj
          · rw [HSB.out]; exact Nat.le_refl _
          · have := (HT0.out.2.2.lt _ hj).1; rw [← HSB.out]; omega))
        have HTT := Lib.hid hT
        clear hT hkp HST HT0 HBW
        have HBW := hbo
        clear hbo
        go_wp2_with fail
        exact ⟨⟨r - 1, by omega, by omega, by go_num, HTT, HBW⟩, by simp [intOf]; omega⟩
      · obtain rfl : r = -1 := by omega
        go_wp2_with fail
        have HRD := Lib.hid (placeT_any sb (sb + 1) q2 c2 ((3 : Nat) : Int) [⟨id, 1, 0, some ⟨g2, 0, none⟩⟩] q4 c4 id  wr HTT.out (by simp) (srt_one _) (HI.out.below HBW.out))
        refine HRD.out.mono ?_
        rintro e wa ⟨rfl, hb⟩
        rw [place_me2]
        have hto := Lib.hid (HTT.out.below hb)
        have hbo := Lib.hid (HBW.out.trans (hb.mono HBW.out.size))
        clear hb HTT HBW HRD
        have HTT := hto
        have HBW := hbo
        clear hto hbo
        go_wp2_with fail
        have HRD := Lib.hid (getD_any sb (sb + 1) q2 c2 ((3 : Nat) : Int) [⟨id, 1, 0, some ⟨g2, 0, none⟩⟩] q4 c4 id false wa HTT.out (by simp) (srt_one _) (HI.out.below HBW.out))
        refine HRD.out.mono ?_
        rintro e wb ⟨rfl, hb⟩
        rw [get_me]
        have hto := Lib.hid (HTT.out.below hb)
        have hbo := Lib.hid (HBW.out.trans (hb.mono HBW.out.size))
        clear hb HTT HBW HRD
        have HTT := hto
        have HBW := hbo
        clear hto hbo
        go_wp2_with fail
        go_ret
        exact ⟨rfl, HB4.out.trans (HBW.out.mono HB4.out.size)⟩
  · have HLL : Hid (Rd wl 1 (.slice q l.length c) l.length (bys l)) := Lib.hid (HL.out.below HBL.out)
    have hle : l.length ≤ 15 := by omega
    clear h15
    go_enter Tryd.func5, Tryd.ntmps5
    go_wp2_with (at_builtin; go_must (rw [← HWL.out]); go_must (refine app_ow3 rfl _ _ 24 24 rfl w.heap.size 5 i0 (.int .u8 0) 1 1 Tryd.underlying24 hi0 hz0 hz1 hz2 (by rfl) _ 1 _ rfl HO0.out l.length _ rfl (Rd.src Tryd.underlying24 HLL.out (bys_one _)) (by unfold maxLen; omega) (by omega) hsz ?_); go_must (intro v4 w4 how4 hg4 hn4); go_must (obtain ⟨q4, c4, rfl⟩ := Ow_form how4); go_must (refine Hid.out ?_))
    refine Lib.hid ?_
    obtain ⟨id, hid⟩ : ∃ id, id = (105 : UInt8) :: l := ⟨_, rfl⟩
    have hidl0 : 1 + l.length = id.length := by rw [hid, List.length_cons]; (try rw [List.length_take]); omega
    have hidl : 1 + l.length = id.length := hidl0
    have hid1 : 1 ≤ id.length := by omega
    have hid2 : id.length ≤ 16 := by omega
    have hcell : bys [105] ++ bys l = bys id := by rw [hid]; rfl
    rw [hidl0, hcell] at how4
    rw [hidl]
    have HI : Hid (Rd w4 1 (.slice q4 id.length c4) id.length (bys id)) := Lib.hid (Rd.of_ow how4)
    have HB4 : Hid (Below w.heap.size w w4) := Lib.hid (HBL.out.grown hg4 HBL.out.size (fun k hk => by cases hk; exact Nat.le_refl _))
    clear hid hidl hidl0 hcell how4 hg4 hn4 HLL HL HO0 HWL HBL hsz
    go_wp2_with fail
    refine (newTab_any 3 (by decide) (by decide) w4).mono ?_
    rintro e w5 ⟨rfl, hw⟩
    obtain ⟨sb, hsb⟩ : ∃ sb, sb = w4.heap.size := ⟨_, rfl⟩
    have hs5 : w5.heap.size = sb + 1 := by rw [hw, hsb]; exact Array.size_push _
    have HB5 : Hid (Below w4.heap.size w4 w5) := Lib.hid (by rw [hw]; exact (Below.refl _ _).alloc (Nat.le_refl _) _)
    have HT5 : Hid (TabAt w5 sb (sb + 1) none 0 ((3 : Nat) : Int) []) := Lib.hid ⟨by rw [hw, hsb]; exact heap_alloc_new w4 _, by omega, Ow.nil _ _ _ _⟩
    have HSB := Lib.hid hsb
    have HSW : Hid (sb + 1 ≤ w5.heap.size) := Lib.hid (by omega)
    rw [← hsb]
    clear hw hsb hs5
    go_wp2_with (first | (refine l_buildT rfl 42 _ rfl (bysA K9a) keys9a ?_) | (refine l_buildT rfl 44 _ rfl (bysA K9) keys9 ?_))
    refine (limits_any w5).mono ?_
    rintro e wn ⟨rfl, hb⟩
    have HBN : Hid (Below w4.heap.size w4 wn) := Lib.hid (HB5.out.trans (hb.mono HB5.out.size))
    have HCR := Lib.hid (createT_any sb (sb + 1) none 0 3 [] q4 c4 id K9 wn (HS.out.below (HB4.out.trans (HBN.out.mono HB4.out.size))) rfl (HT5.out.below hb) (by simp) srt_nilT (HI.out.below HBN.out) (fun k hk he => by cases he) (Nat.le_trans HSW.out hb.size) (by decide) (by decide) (pl_nil 3))
    clear hb
    go_wp2_with fail
    refine HCR.out.mono ?_
    rintro e w6 ⟨g2, q2, c2, rfl, hT, hkp, hgz⟩
    rw [make_me id _ hid1 hid2] at hT ⊢
    have HBW : Hid (Below w4.heap.size w4 w6) := Lib.hid (below_kp HBN.out hkp (fun j hj => by
      rcases hj with rfl | hj
      · rw [HSB.out]; exact Nat.le_refl _
      · cases hj))
    have HTT := Lib.hid hT
    clear hT hkp hgz HCR HBN HT5 HB5 HSW
    go_wp2_with fail
    have HRD := Lib.hid (getD_any sb (sb + 1) q2 c2 ((3 : Nat) : Int) [⟨id, 1, 0, some ⟨g2, 0, none⟩⟩] q4 c4 id false w6 HTT.out (by simp) (srt_one _) (HI.out.below HBW.out))
    refine HRD.out.mono ?_
    rintro e w7 ⟨rfl, hb⟩
    rw [get_me]
    have hto := Lib.hid (HTT.out.below hb)
    have hbo := Lib.hid (HBW.out.trans (hb.mono HBW.out.size))
    clear hb HTT HBW HRD
    have HTT := hto
    have HBW := hbo
    clear hto hbo
    go_wp2_with fail
    refine (tables_any w7 (HS.out.below (HB4.out.trans (HBW.out.mono HB4.out.size)))).mono ?_
    rintro e w8 ⟨rfl, hb⟩
    have hto := Lib.hid (HTT.out.below hb)
    have hbo := Lib.hid (HBW.out.trans (hb.mono HBW.out.size))
    clear hb HTT HBW
    have HTT := hto
    have HBW := hbo
    clear hto hbo
    go_wp2_with fail
    rw [eT']
    go_loopw [11] (fun nv wr => ∃ r : Int, -1 ≤ r ∧ r ≤ 4 ∧ nv = .int .i64 r ∧ Hid (TabAt wr sb (sb + 1) q2 c2 ((3 : Nat) : Int) [⟨id, 1, 0, some ⟨g2, 0, none⟩⟩]) ∧ Hid (Below w4.heap.size w4 wr)) (fun nv _ => (intOf nv + 1).toNat)
    case atStart => exact ⟨T, by omega, by omega, rfl, HTT, HBW⟩
    case round =>
      clear HTT HBW
      obtain ⟨r, hr0, hr1, rfl, HTT, HBW⟩ := hrel
      obtain ⟨hde, hdn⟩ := dirSame g2
      by_cases hlt : 0 ≤ r
      · go_wp2_with fail
        have HT0 := Lib.hid (HTT.out)
        clear HTT
        have HST := Lib.hid (holdT_any sb (sb + 1) q2 c2 ((3 : Nat) : Int) [⟨id, 1, 0, some ⟨g2, 0, none⟩⟩] q4 c4 id wr HT0.out (by simp) (srt_one _) (HI.out.below HBW.out))
        refine HST.out.mono ?_
        rintro e wa ⟨rfl, hT, hkp⟩
        rw [hold_me] at hT ⊢
        have hbo : Hid (Below w4.heap.size w4 wa) := Lib.hid (below_kp HBW.out hkp (fun j hj => by
          rcases hj with rfl | hj
          · rw [HSB.out]; exact Nat.le_refl _
          · have := (HT0.out.2.2.lt _ hj).1; rw [← HSB.out]; omega))
        have HTT := Lib.hid hT
        clear hT hkp HST HT0 HBW
        have HBW := hbo
        clear hbo
        go_wp2_with fail
        have HT0 := Lib.hid (HTT.out)
        clear HTT
        have HST := Lib.hid (holdT_any sb (sb + 1) q2 c2 ((3 : Nat) : Int) [⟨id, 2, 0, some ⟨g2, 0, none⟩⟩] q4 c4 id wa HT0.out (by simp) (srt_one _) (HI.out.below HBW.out))
        refine HST.out.mono ?_
        rintro e wb ⟨rfl, hT, hkp⟩
        rw [hold_me2] at hT ⊢
        have hbo : Hid (Below w4.heap.size w4 wb) := Lib.hid (below_kp HBW.out hkp (fun j hj => by
          rcases hj with rfl | hj
          · rw [HSB.out]; exact Nat.le_refl _
          · have := (HT0.out.2.2.lt _ hj).1; rw [← HSB.out]; omega))
        have HTT := Lib.hid hT
        clear hT hkp HST HT0 HBW
        have HBW := hbo
        clear hbo
        go_wp2_with fail
        have HRD := Lib.hid (stateT_any sb (sb + 1) q2 c2 ((3 : Nat) : Int) [⟨id, 2, 0, some ⟨g2, 0, none⟩⟩] q4 c4 id  wb HTT.out (by simp) (srt_one _) (HI.out.below HBW.out))
        refine HRD.out.mono ?_
        rintro e wc ⟨rfl, hb⟩
        rw [state_me]
        have hto := Lib.hid (HTT.out.below hb)
        have hbo := Lib.hid (HBW.out.trans (hb.mono HBW.out.size))
        clear hb HTT HBW HRD
        have HTT := hto
        have HBW := hbo
        clear hto hbo
        go_wp2_with fail
        have HRD := Lib.hid (getD_any sb (sb + 1) q2 c2 ((3 : Nat) : Int) [⟨id, 2, 0, some ⟨g2, 0, none⟩⟩] q4 c4 id true wc HTT.out (by simp) (srt_one _) (HI.out.below HBW.out))
        refine HRD.out.mono ?_
        rintro e wd ⟨rfl, hb⟩
        rw [get_me2]
        have hto := Lib.hid (HTT.out.below hb)
        have hbo := Lib.hid (HBW.out.trans (hb.mono HBW.out.size))
        clear hb HTT HBW HRD
        have HTT := hto
        have HBW := hbo
        clear hto hbo
        go_wp2_with fail
        have HRD := Lib.hid (getD_any sb (sb + 1) q2 c2 ((3 : Nat) : Int) [⟨id, 2, 0, some ⟨g2, 0, none⟩⟩] q4 c4 id false wd HTT.out (by simp) (srt_one _) (HI.out.below HBW.out))
        refine HRD.out.mono ?_
        rintro e we ⟨rfl, hb⟩
        rw [get_me3]
        have hto := Lib.hid (HTT.out.below hb)
        have hbo := Lib.hid (HBW.out.trans (hb.mono HBW.out.size))
        clear hb HTT HBW HRD
        have HTT := hto
        have HBW := hbo
        clear hto hbo
        go_wp2_with fail
        have HT0 := Lib.hid (HTT.out)
        clear HTT
        have HST := Lib.hid (freeT_any sb (sb + 1) q2 c2 ((3 : Nat) : Int) [⟨id, 2, 0, some ⟨g2, 0, none⟩⟩] q4 c4 id we HT0.out (by simp) (srt_one _) (HI.out.below HBW.out))
        refine HST.out.mono ?_
        rintro e wf ⟨rfl, hT, hkp⟩
        rw [free_me] at hT ⊢
        have hbo : Hid (Below w4.heap.size w4 wf) := Lib.hid (below_kp HBW.out hkp (fun j hj => by
          rcases hj with rfl | hj
          · rw [HSB.out]; exact Nat.le_refl _
          · have := (HT0.out.2.2.lt _ hj).1; rw [← HSB.out]; omega))
        have HTT := Lib.hid hT
        clear hT hkp HST HT0 HBW
        have HBW := hbo
        clear hbo
        go_wp2_with fail
        have HT0 := Lib.hid (HTT.out)
        clear HTT
        have HST := Lib.hid (freeT_any sb (sb + 1) q2 c2 ((3 : Nat) : Int) [⟨id, 1, 0, some ⟨g2, 0, none⟩⟩] q4 c4 id wf HT0.out (by simp) (srt_one _) (HI.out.below HBW.out))
        refine HST.out.mono ?_
        rintro e wg ⟨rfl, hT, hkp⟩
        rw [free_me2] at hT ⊢
        have hbo : Hid (Below w4.heap.size w4 wg) := Lib.hid (below_kp HBW.out hkp (fun j hj => by
          rcases hj with rfl | hj
          · rw [HSB.out]; exact Nat.le_refl _
          · have := (HT0.out.2.2.lt _ hj).1; rw [← HSB.out]; omega))
        have HTT := Lib.hid hT
        clear hT hkp HST HT0 HBW
        have HBW := hbo
        clear hbo
        go_wp2_with fail
        exact ⟨⟨r - 1, by omega, by omega, by go_num, HTT, HBW⟩, by simp [intOf]; omega⟩
      · obtain rfl : r = -1 := by omega
        go_wp2_with fail
        have HRD := Lib.hid (placeT_any sb (sb + 1) q2 c2 ((3 : Nat) : Int) [⟨id, 1, 0, some ⟨g2, 0, none⟩⟩] q4 c4 id  wr HTT.out (by simp) (srt_one _) (HI.out.below HBW.out))
        refine HRD.out.mono ?_
        rintro e wa ⟨rfl, hb⟩
        rw [place_me2]
        have hto := Lib.hid (HTT.out.below hb)
        have hbo := Lib.hid (HBW.out.trans (hb.mono HBW.out.size))
        clear hb HTT HBW HRD
        have HTT := hto
        have HBW := hbo
        clear hto hbo
        go_wp2_with fail
        have HRD := Lib.hid (getD_any sb (sb + 1) q2 c2 ((3 : Nat) : Int) [⟨id, 1, 0, some ⟨g2, 0, none⟩⟩] q4 c4 id false wa HTT.out (by simp) (srt_one _) (HI.out.below HBW.out))
        refine HRD.out.mono ?_
        rintro e wb ⟨rfl, hb⟩
        rw [get_me]
        have hto := Lib.hid (HTT.out.below hb)
        have hbo := Lib.hid (HBW.out.trans (hb.mono HBW.out.size))
        clear hb HTT HBW HRD
        have HTT := hto
        have HBW := hbo
        clear hto hbo
        go_wp2_with fail
        go_ret
        exact ⟨rfl, HB4.out.trans (HBW.out.mono HB4.out.size)⟩
end Ten
end Go.Proofs.YtmkoiddfkanmiaaDoor

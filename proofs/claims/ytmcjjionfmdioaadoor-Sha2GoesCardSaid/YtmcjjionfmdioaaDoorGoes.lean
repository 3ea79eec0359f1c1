/- The walk of custumallaw01.Sha2Goes. -/
import Derived.Test.YtmcjjionfmdioaaDoorGoesW
import Derived.Test.YtmcjjionfmdioaaDoorForks
import Derived.Test.YtmcjjionfmdioaaDoorSame
import Derived.Test.YtmcjjionfmdioaaDoorConcW
namespace Go.Proofs.YtmcjjionfmdioaaDoor
open Go.RowKit Bits Mem Sha
namespace Ref
set_option maxRecDepth 100000 in
theorem none_any (w : World) : Calls Tryd.prog 33 #[] w fun e w' => e = .returned (.pointer none) ∧ Below w.heap.size w w' := by
  go_enter Tryd.func33, Tryd.ntmps33
  go_wp2_with fail
  go_ret
  exact ⟨rfl, Below.refl _ _⟩
set_option maxRecDepth 100000 in
theorem write_nil (v : Value) (w : World) : Calls Tryd.prog 34 #[.pointer none, v] w fun e w' => e = .returned (.tuple #[]) ∧ Below w.heap.size w w' := by
  go_enter Tryd.func34, Tryd.ntmps34
  go_wp2_with fail
  refine bodyPost_ret (results_none rfl _ _ _) rfl ?_
  exact ⟨rfl, Below.refl _ _⟩
set_option maxRecDepth 100000 in
theorem fork_nil (w : World) : Calls Tryd.prog 35 #[.pointer none] w fun e w' => e = .returned (.pointer none) ∧ Below w.heap.size w w' := by
  go_enter Tryd.func35, Tryd.ntmps35
  go_wp2_with fail
  go_ret
  exact ⟨rfl, Below.refl _ _⟩
set_option maxRecDepth 100000 in
theorem len_nil (w : World) : Calls Tryd.prog 36 #[.pointer none] w fun e w' => e = .returned (.int .i64 0) ∧ Below w.heap.size w w' := by
  go_enter Tryd.func36, Tryd.ntmps36
  go_wp2_with fail
  go_ret
  exact ⟨rfl, Below.refl _ _⟩
theorem OwnV.set {w : World} {base : Nat} {v : Value} {L : List (List UInt8)} {vs : List Value} (h : OwnV w base v L vs) {i k g cap : Nat} {l : List UInt8} (hv : vs[i]? = some (.slice (some ⟨g, 0, none⟩) l.length cap)) (hL : L[i]? = some l) (hk : k < l.length) (x : UInt8) :
    w.cell? ⟨g, k, none⟩ = some (.int .u8 ((bt l k).toNat : Int)) ∧ w.frozen? ⟨g, k, none⟩ = false ∧ base ≤ g ∧ OwnV (w.setCell ⟨g, k, none⟩ (.int .u8 (x.toNat : Int))) base v (L.set i (l.set k x)) vs := by
  obtain ⟨h1, h2, h3⟩ := h
  obtain ⟨l', hl', ho⟩ := h2 i _ hv
  obtain rfl : l = l' := Option.some.inj (hL.symm.trans hl')
  obtain ⟨hc, hf, hb, ho'⟩ := Ow_set ho hk x
  have hg := grown_setCell w g k (.int .u8 (x.toNat : Int))
  refine ⟨hc, hf, hb, ?_, fun j y hy => ?_, h3⟩
  · rw [List.length_set]
    exact h1.kept hg (Ow_apart' ho h1 (by decide))
  · by_cases hij : j = i
    · subst hij
      obtain rfl := Option.some.inj (hy.symm.trans hv)
      refine ⟨l.set k x, ?_, by rw [List.length_set]; exact ho'⟩
      rw [List.getElem?_set_self (List.getElem?_eq_some_iff.1 hL).1]
    · obtain ⟨m, hm, hom⟩ := h2 j y hy
      refine ⟨m, by rw [List.getElem?_set_ne (fun e => hij e.symm)]; exact hm, hom.kept hg (.inr (h3 i j _ y g (fun e => hij e.symm) hv hy rfl))⟩
theorem RawParts.below {w w' : World} {v : Value} {L : List (List UInt8)} (h : RawParts w v L) (hb : Below w.heap.size w w') : RawParts w' v L := by
  obtain ⟨vs, h1, h2⟩ := h
  exact ⟨vs, h1.below hb, fun i hi => let ⟨q, c, e, hr⟩ := h2 i hi; ⟨q, c, e, hr.below hb⟩⟩
theorem OwnV.below {w w' : World} {base : Nat} {v : Value} {L : List (List UInt8)} {vs : List Value} (h : OwnV w base v L vs) (hb : Below w.heap.size w w') : OwnV w' base v L vs := by
  obtain ⟨h1, h2, h3⟩ := h
  exact ⟨h1.below hb, fun i x hx => let ⟨l, hl, ho⟩ := h2 i x hx; ⟨l, hl, ho.below hb⟩, h3⟩
theorem HashF.below {w w' : World} {hb B : Nat} {all : List UInt8} (h : HashF w hb all B) (hw : Below w.heap.size w w') : HashF w' hb all B := by
  obtain ⟨p, c, t, h1, h2, h3⟩ := h
  exact ⟨p, c, t, Rp.row_le hw h1, h2.below hw, h3⟩
theorem HashF.kept {w w' : World} {hb B g : Nat} {all : List UInt8} (h : HashF w hb all B) (hw : w.grownBy w' (some g)) (hg : g < B) (hn : g ≠ hb) : HashF w' hb all B := by
  obtain ⟨p, c, t, h1, h2, h3⟩ := h
  refine ⟨p, c, t, ?_, h2.kept hw (.inr fun e => by have := (h3 g e).1; omega), h3⟩
  rw [hw.block hb (lt_of_heap h1) (fun e => hn (Option.some.inj e).symm)]
  exact h1
theorem OwnV.kept {w w' : World} {base hb : Nat} {v : Value} {L : List (List UInt8)} {vs : List Value} (h : OwnV w base v L vs) (hg : w.grownBy w' (some hb)) (hl : hb < base) : OwnV w' base v L vs := by
  obtain ⟨h1, h2, h3⟩ := h
  refine ⟨h1.kept hg (.inr fun e => by have := (h1.lt _ e).1; omega), fun i x hx => ?_, h3⟩
  obtain ⟨l, hl', ho⟩ := h2 i x hx
  exact ⟨l, hl', ho.kept hg (.inr fun e => by have := (ho.lt _ e).1; omega)⟩
@[go_sem] theorem u8_xor51 (a : UInt8) : bits .xor .u8 (a.toNat : Int) (51 : Int) = ((a.toNat ^^^ 51 : Nat) : Int) := u8_xor a 51
set_option maxRecDepth 100000 in
theorem newF_any (w : World) (hT : Sha.Tabs w) :
    Calls Tryd.prog 38 #[] w fun e w' => ∃ hb, e = .returned (.pointer (some ⟨hb, 0, none⟩)) ∧ (∀ B, HashF w' hb [] B) ∧ w.heap.size ≤ hb ∧ hb < w'.heap.size ∧ Below w.heap.size w w' := by
  obtain ⟨t, f, hrow⟩ := hT.start
  have HROW := Lib.hid hrow; clear hrow
  go_enter Tryd.func38, Tryd.ntmps38
  go_wp2_with (first | (refine wpList_load_row rfl 79 _ rfl 2 rfl t (cells HH) f _ HROW.out Tryd.underlying79 rfl info8 ?_) | (refine wpList_build rfl 81 _ rfl (by exact (congrArg Option.isSome built_new)) ?_))
  go_ret
  refine ⟨w.heap.size, rfl, fun B => ⟨none, 0, 81, ?_, Rd.nil _ _, fun k hk => by cases hk⟩, Nat.le_refl _, by simp, (Below.refl _ _).alloc (Nat.le_refl _) _⟩
  exact (Rg.heap_alloc_at _ _ _ rfl).trans (congrArg (fun c => some (Obj.cells c 81 (0, 0))) (by kernel_rfl))
set_option maxRecDepth 100000 in
set_option maxHeartbeats 4000000 in
theorem sha2goes_any (q : Option Addr) (c : Nat) (L : List (List UInt8)) (w : World) (hS : Sha.Tabs w) (hT : Ref.Tabs w) (hp : RawParts w (.slice q L.length c) L) :
    Calls Tryd.prog 8 #[.slice q L.length c] w fun e w' => e = .returned (.bool true) ∧ Below w.heap.size w w' := by
  have HS := Lib.hid hS
  have HT := Lib.hid hT
  have HP := Lib.hid hp
  clear hS hT hp
  go_enter Tryd.func8, Tryd.ntmps8
  go_wp2_with fail
  refine (none_any w).mono ?_
  rintro e w1 ⟨rfl, hb1⟩
  have HB1 := Lib.hid hb1
  clear hb1
  go_wp2_with (refine conv_lit rfl 28 _ rfl 5 Tryd.underlying28 Tryd.underlying5 _ _ _ rfl _ _ rfl (by simp) ?_)
  refine (write_nil _ _).mono ?_
  rintro e w2 ⟨rfl, hb2⟩
  have hx : Below w1.heap.size w1 (w1.alloc (.cells #[.int .u8 120] 5 (1, 2))) := (Below.refl _ _).alloc (Nat.le_refl _) _
  have HB2 := Lib.hid (HB1.out.trans ((hx.trans (hb2.mono hx.size)).mono HB1.out.size))
  clear hb2 hx HB1
  go_wp2_with fail
  refine (sums_any w2 (HS.out.below HB2.out)).mono ?_
  rintro e w3 ⟨rfl, hb3⟩
  have HB3 := Lib.hid (HB2.out.trans (hb3.mono HB2.out.size))
  clear hb3 HB2
  go_wp2_with fail
  refine (fork_nil w3).mono ?_
  rintro e w4 ⟨rfl, hb4⟩
  have HB4 := Lib.hid (HB3.out.trans (hb4.mono HB3.out.size))
  clear hb4 HB3
  go_wp2_with fail
  refine (len_nil w4).mono ?_
  rintro e w5 ⟨rfl, hb5⟩
  have HB5 := Lib.hid (HB4.out.trans (hb5.mono HB4.out.size))
  clear hb5 HB4
  go_wp2_with fail
  refine (sum_nil w5 (HS.out.below HB5.out)).mono ?_
  rintro e w6 ⟨rfl, hb6⟩
  have HB6 := Lib.hid (HB5.out.trans (hb6.mono HB5.out.size))
  clear hb6 HB5
  go_wp2_with fail
  have hps := parts_any none 0 [] w6 (HS.out.below HB6.out) ⟨[], Rd.nil _ _, fun i hi => by simp at hi⟩ (by decide)
  refine hps.mono ?_
  clear hps
  rintro e w7 ⟨rfl, hb7⟩
  have HB7 := Lib.hid (HB6.out.trans (hb7.mono HB6.out.size))
  clear hb7 HB6
  rw [show ([] : List (List UInt8)).flatten = [] from rfl]
  go_wp2_with fail
  refine (newF_any w7 (HS.out.below HB7.out)).mono ?_
  rintro e w8 ⟨hb, rfl, hF, hb1, hb2, hb8⟩
  have HB8 := Lib.hid (HB7.out.trans (hb8.mono HB7.out.size))
  have HHB := Lib.hid (Nat.le_trans HB7.out.size hb1)
  have HF8 := Lib.hid hF
  have HLT := Lib.hid hb2
  clear hF hb1 hb2 hb8 HB7
  go_wp2_with fail
  refine (few_any q c L 10 200 w8 (RawParts.below HP.out HB8.out) (by decide) (by decide) (by decide) (by decide)).mono ?_
  rintro e w9 ⟨v, rfl, ⟨vs, hO⟩, hb9⟩
  obtain ⟨N, hN⟩ : ∃ N, N = few L (10 : Int).toNat (200 : Int).toNat := ⟨_, rfl⟩
  rw [← hN] at hO
  have HN := Lib.hid hN
  obtain ⟨qv, cv, rfl⟩ := Ow_form hO.1
  have HO9 := Lib.hid hO
  have HF9 := Lib.hid (HashF.below (HF8.out w9.heap.size) hb9)
  have HB9 := Lib.hid (HB8.out.trans (hb9.mono HB8.out.size))
  have HS9 := Lib.hid hb9.size
  clear hN hO hb9 HF8
  go_wp2_with fail
  have hfl : N.flatten.length ≤ 2000 := by rw [HN.out]; exact few_flat L 10 200
  have HFL := Lib.hid hfl
  clear hfl
  go_loopw [5, 7] (fun s i wr => ∃ (k : Nat) (N' : List (List UInt8)), k ≤ N.length ∧ i = .int .i64 k ∧ s = .string ⟨((N.take k).flatten).toArray⟩ ∧ HashF wr hb (N.take k).flatten w9.heap.size ∧ OwnV wr w8.heap.size (.slice qv N.length cv) N' vs ∧ N'.length = N.length ∧ (∀ j, k ≤ j → N'[j]? = N[j]?) ∧ Below w.heap.size w wr ∧ w9.heap.size ≤ wr.heap.size) (fun _ i _ => N.length - (intOf i).toNat)
  case atStart => exact ⟨0, N, Nat.zero_le _, rfl, rfl, HF9.out, HO9.out, rfl, fun _ _ => rfl, HB9.out, Nat.le_refl _⟩
  case round =>
    obtain ⟨k, N', hk, rfl, rfl, hF, hO, hNl, hNe, hbw, hw9⟩ := hrel
    by_cases hlt : k < N.length
    · obtain ⟨x, hx⟩ : ∃ x, N[k]? = some x := ⟨_, List.getElem?_eq_getElem hlt⟩
      have hx' : N'[k]? = some x := (hNe k (Nat.le_refl _)).trans hx
      have hvl : vs.length = N'.length := by have := hO.1.1; omega
      obtain ⟨ve, hve⟩ : ∃ ve, vs[k]? = some ve := ⟨_, List.getElem?_eq_getElem (by omega)⟩
      obtain ⟨x2, hx2, hoe⟩ := hO.2.1 k ve hve
      obtain rfl : x = x2 := Option.some.inj (hx'.symm.trans hx2)
      obtain ⟨qe, ce, rfl⟩ := Ow_form hoe
      have hor := hO.1
      rw [hNl] at hor
      obtain ⟨bq, oq, hqv, hbq, _, _, hcell⟩ := Rd_lt (Rd.of_ow hor) (by omega)
      subst hqv
      have cE := hcell k _ hve
      have hkI : (k : Int) < N.length := by omega
      have hN10 : N.length ≤ 10 := by rw [HN.out, few_length]; omega
      have hk10 : (k : Int) < 10 := by omega
      have htk : (N.take (k + 1)).flatten = (N.take k).flatten ++ x := by
        rw [List.take_add_one, hx]; simp
      have hle2 : ((N.take k).flatten ++ x).length ≤ 2000 := by
        rw [← htk]
        have h1 := congrArg (fun l => l.flatten.length) (List.take_append_drop (k + 1) N)
        simp only [List.flatten_append, List.length_append] at h1
        have h2 := HFL.out
        omega
      obtain ⟨A, hA⟩ : ∃ A, A = (N.take k).flatten := ⟨_, rfl⟩
      rw [← hA] at hF htk hle2 ⊢
      have hal : A.length ≤ 2000 := by rw [List.length_append] at hle2; omega
      have hxl : x.length ≤ 2000 := by rw [List.length_append] at hle2; omega
      have HTK := Lib.hid htk
      have HNX := Lib.hid hx'
      have HLE := Lib.hid hle2
      have HF := Lib.hid hF
      have HO := Lib.hid hO
      have HOE := Lib.hid hoe
      have HNL := Lib.hid hNl
      have HNE := Lib.hid hNe
      have HBW := Lib.hid hbw
      have HVE := Lib.hid hve
      clear hx hx' hvl hx2 hoe hor hcell htk hle2 hA hF hO hNl hNe hbw hve hk
      go_wp2_with fail
      rw [run_conv_str (P := Tryd.prog) (Rd.of_ow HOE.out) 9 28 5 Tryd.underlying9 Tryd.underlying28 Tryd.underlying5]
      go_wp2_with fail
      have hnb : (Value.slice qe x.length ce).ownBlock ≠ some hb := fun e => by
        have h1 := (HOE.out.lt _ e).1
        have h2 := HLT.out
        omega
      refine (writeF_any hb w9.heap.size A x qe ce wr (HS.out.below HBW.out) (HashF.toAt HF.out) hw9 (Rd.of_ow HOE.out) hnb (by omega)).mono ?_
      rintro e w10 ⟨rfl, hF', hg'⟩
      have HF1 := Lib.hid hF'
      have HO1 := Lib.hid (OwnV.kept HO.out hg' HLT.out)
      have HB10 := Lib.hid (HBW.out.grown hg' HBW.out.size (fun k hk => by have e : hb = k := Option.some.inj hk; have := HHB.out; omega))
      have HW10 := Lib.hid (Nat.le_trans hw9 hg'.size)
      clear hF' hg' hnb HF HO HOE HBW cE hw9 hbq
      go_wp2_with fail
      go_loopw [8] (fun t wi => ∃ (j : Nat) (N2 : List (List UInt8)) (y : List UInt8), j ≤ x.length ∧ t = .int .i64 j ∧ OwnV wi w8.heap.size (.slice (some ⟨bq, oq, none⟩) N.length cv) N2 vs ∧ N2.length = N.length ∧ N2[k]? = some y ∧ y.length = x.length ∧ (∀ m, k < m → N2[m]? = N[m]?) ∧ HashF wi hb (A ++ x) w9.heap.size ∧ Below w.heap.size w wi ∧ w9.heap.size ≤ wi.heap.size) (fun t _ => x.length - (intOf t).toNat)
      case atStart => exact ⟨0, N', x, Nat.zero_le _, rfl, HO1.out, HNL.out, HNX.out, rfl, fun m hm => HNE.out m (by omega), HF1.out, HB10.out, HW10.out⟩
      case round =>
        obtain ⟨j, N2, y, hj, rfl, hO2, hN2, hNy, hy, hNm, hF2, hb2, hw2⟩ := hrel
        have hor := hO2.1
        rw [hN2] at hor
        obtain ⟨bq', oq', hqv, hbq, _, _, hcell⟩ := Rd_lt (Rd.of_ow hor) (by omega)
        cases hqv
        have cE := hcell k _ HVE.out
        clear hor hcell
        by_cases hjl : j < x.length
        ·
          as_aux_lemma =>
            obtain ⟨l2, hl2, hoe⟩ := hO2.2.1 k _ HVE.out
            obtain rfl : y = l2 := Option.some.inj (hNy.symm.trans hl2)
            obtain ⟨g, c', hqe⟩ := Ow_pos hoe (by omega)
            obtain ⟨hq1, hq2, hq3⟩ := Value.slice.inj hqe
            subst hq1 hq3
            have hve : vs[k]? = some (.slice (some ⟨g, 0, none⟩) y.length ce) := by rw [HVE.out, hy]
            have hgB : g < w9.heap.size := by
              obtain ⟨l9, _, ho9⟩ := HO9.out.2.1 k _ HVE.out
              exact (ho9.lt g rfl).2
            obtain ⟨z, hz⟩ : ∃ z, z = bt y j := ⟨_, rfl⟩
            obtain ⟨c0, f0, hbg, hO3⟩ := OwnV.set hO2 hve hNy (show j < y.length by omega) (z ^^^ 51)
            rw [← hz] at c0
            have HO3 := Lib.hid hO3
            have HG := Lib.hid (And.intro hbg hgB)
            have HN2 := Lib.hid hN2
            have HNY := Lib.hid hNy
            have HY := Lib.hid hy
            have HNM := Lib.hid hNm
            have HF2 := Lib.hid hF2
            have HB2 := Lib.hid hb2
            have HW2 := Lib.hid hw2
            have hjI : (j : Int) < x.length := by omega
            clear hO2 hl2 hoe hqe hq2 hve hbg hgB hz hO3 hN2 hNy hy hNm hF2 hb2 hw2 hbq
            go_wp2_with fail
            refine ⟨⟨j + 1, N2.set k (y.set j (z ^^^ 51)), y.set j (z ^^^ 51), by omega, by go_num, ?_, by rw [List.length_set]; exact HN2.out, ?_, by rw [List.length_set]; exact HY.out, ?_, ?_, ?_, ?_⟩, by simp [intOf]; omega⟩
            · have h := HO3.out
              rw [UInt8.toNat_xor] at h
              exact h
            · rw [List.getElem?_set_self (List.getElem?_eq_some_iff.1 HNY.out).1]
            · intro m hm
              rw [List.getElem?_set_ne (by omega)]
              exact HNM.out m hm
            · exact HashF.kept HF2.out (grown_setCell _ _ _ _) HG.out.2 (by have h1 := HG.out.1; have h2 := HLT.out; omega)
            · exact HB2.out.setCell (show w.heap.size ≤ (⟨g, j, none⟩ : Addr).block from Nat.le_trans HB8.out.size HG.out.1) _
            · have h1 := HW2.out
              simpa using h1
        ·
          as_aux_lemma =>
            obtain rfl : j = x.length := by omega
            have HO3 := Lib.hid hO2
            have HN2 := Lib.hid hN2
            have HNM := Lib.hid hNm
            have HF2 := Lib.hid hF2
            have HB2 := Lib.hid hb2
            have HW2 := Lib.hid hw2
            clear hO2 hN2 hNy hy hNm hF2 hb2 hw2 hbq hjl
            go_wp2_with fail
            refine (sum_some hb (A ++ x) _ (HS.out.below HB2.out) (HashF.toAt HF2.out) (by have := HLE.out; omega)).mono ?_
            rintro e w11 ⟨rfl, hb11⟩
            obtain ⟨D, hD⟩ : ∃ D, D = sha (A ++ x) := ⟨_, rfl⟩
            have HDL : Hid (D.length = 32) := Lib.hid (by rw [hD]; exact sha_length _)
            have HDE := Lib.hid hD
            rw [← hD]
            have HO4 := Lib.hid (OwnV.below HO3.out hb11)
            have HF4 := Lib.hid (HashF.below HF2.out hb11)
            have HB4 := Lib.hid (HB2.out.trans (hb11.mono HB2.out.size))
            have HW4 := Lib.hid (Nat.le_trans HW2.out hb11.size)
            have HID : Hid ((Tryd.prog.info? 25).map (·.size) = some (bysA D).size) := Lib.hid (by rw [bysA_size, HDL.out]; exact info32)
            obtain ⟨w12, hw12⟩ : ∃ w12, w12 = w11.alloc (.cells (bysA zeros32) 25) := ⟨_, rfl⟩
            have hb12 : Below w11.heap.size w11 w12 := by rw [hw12]; exact (Below.refl _ _).alloc (Nat.le_refl _) _
            have hr12 : w12.heap[w11.heap.size]? = some (.cells (bysA zeros32) 25 (0, 0)) := by rw [hw12]; exact Rg.heap_alloc_at _ _ _ rfl
            have HR12 := Lib.hid hr12
            have HW12 := Lib.hid hw12
            have hr13 := setRow_heap w12 w11.heap.size _ (bysA D) _ _ hr12
            have hb13 := Rg.below_setRow hb12 (Nat.le_refl _) (bysA D)
            have HR13 := Lib.hid hr13
            have HB13 := Lib.hid hb13
            clear hD hb11 hw12 hb12 hr12 hr13 hb13 HO3 HF2 HB2 HW2
            go_wp2_with (rw [z32, ← HW12.out]; refine Rg.store_row rfl 25 _ _ rfl w11.heap.size rfl 25 (bysA zeros32) (bysA D) rfl HR12.out HID.out (by rw [bysA_size, bysA_size, HDL.out]; rfl) (bysA_one _) ?_)
            obtain ⟨w13, hw13⟩ : ∃ w13, w13 = w12.setRow w11.heap.size (bysA D) := ⟨_, rfl⟩
            have hb13 : Below w11.heap.size w11 w13 := by rw [hw13]; exact HB13.out
            have hr13 : w13.heap[w11.heap.size]? = some (.cells (bysA D) 25 (0, 0)) := by rw [hw13]; exact HR13.out
            rw [← hw13]
            have HRD := Lib.hid hr13
            have HO5 := Lib.hid (OwnV.below HO4.out hb13)
            have HF5 := Lib.hid (HashF.below HF4.out hb13)
            have HB5 := Lib.hid (HB4.out.trans (hb13.mono HB4.out.size))
            have HW5 := Lib.hid (Nat.le_trans HW4.out hb13.size)
            clear hw13 hb13 hr13 HR12 HR13 HB13 HW12 HO4 HF4 HB4 HW4
            obtain ⟨Y, hY⟩ : ∃ Y, Y = A ++ x := ⟨_, rfl⟩
            rw [← hY] at HTK HLE HF5 HDE
            rw [← hY]
            clear hY
            as_aux_lemma =>
              have HFX := Lib.hid (HashF.toAt HF5.out)
              refine Rc.region (w13.heap.size) 12 [Rc.F 3 (fun _ => .string ⟨D.toArray⟩) (fun _ _ _ => True), Rc.F 7 (fun _ => .int .i64 (Y.length : Int)) (fun _ _ _ => True)] [] (by kernel_rfl) (Nat.le_refl _) (by kernel_rfl) ?_; intro p; simp only [List.take_succ_cons, List.take_zero, List.take_nil, List.drop_succ_cons, List.drop_zero, List.drop_nil]
              iterate 1 (refine Rc.rK rfl rfl ?_; intro K hK; apply Exists.intro; refine ⟨?_, ?_⟩; (focus (intro x hx;  go_simp; (first | (fail) | ((try go_bits); (try go_simp); (try rfl))))); go_simp; refine hK _ ?_; clear hK K)
              refine Rc.r_str rfl rfl 28 9 _ rfl 5 Tryd.underlying9 Tryd.underlying28 Tryd.underlying5 _ _ (D) rfl (fun x hx => Rd_of_row (Rp.row_le (Rc.undrew hx) HRD.out) HDL.out (by decide)) ?_; intro K hK; go_simp; refine hK _ ?_; clear hK K
              iterate 1 (refine Rc.rK rfl rfl ?_; intro K hK; apply Exists.intro; refine ⟨?_, ?_⟩; (focus (intro x hx;  go_simp; (first | (fail) | ((try go_bits); (try go_simp); (try rfl))))); go_simp; refine hK _ ?_; clear hK K)
              refine Rc.fK rfl rfl rfl rfl ?_ ?_
              · intro x Fs hx hle hg K hK
                go_wp2_with fail
                refine (sum_any ⟨Y.toArray⟩ Y (by rfl) x (HT.out.below (HB5.out.trans ((Rc.undrew hx).mono HB5.out.size))) (by have := HLE.out; omega)).mono ?_
                rintro e x' ⟨rfl, hb⟩
                rw [← HDE.out]
                go_wp2_with fail
                exact hK Rc.dflt x' hb (fun _ _ _ _ => trivial)
              intro K hK; go_simp; refine hK _ ?_; clear hK K
              iterate 3 (refine Rc.rK rfl rfl ?_; intro K hK; apply Exists.intro; refine ⟨?_, ?_⟩; (focus (intro x hx;  go_simp; (first | (fail) | ((try go_bits); (try go_simp); (try rfl))))); go_simp; refine hK _ ?_; clear hK K)
              refine Rc.fK rfl rfl rfl rfl ?_ ?_
              · intro x Fs hx hle hg K hK
                have hl := len_any hb Y x (HashF.toAt (HashF.below HF5.out (Rc.undrew hx)))
                go_wp2_with fail
                refine hl.mono ?_
                rintro e x' ⟨rfl, rfl⟩
                go_wp2_with fail
                exact hK Rc.dflt _ (Below.refl _ _) (fun _ _ _ _ => trivial)
              intro K hK; go_simp; refine hK _ ?_; clear hK K
              iterate 4 (refine Rc.rK rfl rfl ?_; intro K hK; apply Exists.intro; refine ⟨?_, ?_⟩; (focus (intro x hx;  go_simp; (first | (fail) | ((try go_bits); (try go_simp); (try rfl))))); go_simp; refine hK _ ?_; clear hK K)
              refine Rc.done fun x Fs hx hle hg => ?_
              have HO6 := Lib.hid (OwnV.below HO5.out (Rc.undrew hx))
              have HF6 := Lib.hid (HashF.below HF5.out (Rc.undrew hx))
              have HB6 := Lib.hid (HB5.out.trans ((Rc.undrew hx).mono HB5.out.size))
              have HW6 := Lib.hid (Nat.le_trans HW5.out (Rc.undrew hx).size)
              clear hx hle hg HFX HO5 HF5 HB5 HW5 HRD
              go_wp2_with fail
              refine NoPanic.normal ?_
              go_wp2_with fail
              refine ⟨⟨k + 1, N2, by omega, by go_num, by rw [HTK.out], by rw [HTK.out]; exact HF6.out, HO6.out, HN2.out, fun j hj => HNM.out j (Nat.lt_of_succ_le hj), HB6.out, HW6.out⟩, by simp [intOf]; omega⟩
    · obtain rfl : k = N.length := by omega
      go_wp2_with fail
      go_ret
      exact ⟨rfl, hbw⟩
end Ref
end Go.Proofs.YtmcjjionfmdioaaDoor

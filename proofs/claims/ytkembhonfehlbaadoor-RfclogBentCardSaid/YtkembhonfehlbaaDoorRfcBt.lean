/- The walk of custumallaw16.RfclogBent. -/
import Derived.Test.YtkembhonfehlbaaDoorRfcY
namespace Go.Proofs.YtkembhonfehlbaaDoor
open Go.RowKit Bits Mem Sha
namespace Ref
theorem pathS_le (n : Nat) : ∀ (l : List (List UInt8)) (i : Nat), l.length = n → (Rfc.path nodeS (sha []) l i).length ≤ n := by
  induction n using Nat.strongRecOn with
  | _ n ih =>
    intro l i hl
    by_cases h : 2 ≤ l.length
    · have h1 := Rfc.hf_lt l.length h
      have h2 := Rfc.hf_pos l.length
      by_cases hi : i < Rfc.hf l.length
      · have := ih (Rfc.hf l.length) (by omega) (l.take (Rfc.hf l.length)) i (by rw [List.length_take]; omega)
        rw [Rfc.path_left _ _ l i h hi, List.length_append]
        simp; omega
      · have := ih (l.length - Rfc.hf l.length) (by omega) (l.drop (Rfc.hf l.length)) (i - Rfc.hf l.length) (by rw [List.length_drop])
        rw [Rfc.path_right _ _ l i h hi, List.length_append]
        simp; omega
    · rw [Rfc.path_one _ _ l i h]
      exact Nat.zero_le _
theorem modlen16 (n : Int) (m : Nat) (hm : 0 < m) (hb : m < 9223372036854775808) : ∃ j : Nat, j < m ∧ (IntKind.u64.wrap n).tmod (m : Int) = (j : Int) ∧ wrap64 ((IntKind.u64.wrap n).tmod (m : Int)) = (j : Int) := by
  have h1 : 0 ≤ IntKind.u64.wrap n := by rw [IntKind.wrap_u64]; omega
  have h2 : (IntKind.u64.wrap n).tmod (m : Int) = IntKind.u64.wrap n % (m : Int) := Int.tmod_eq_emod_of_nonneg h1
  have h3 : 0 ≤ IntKind.u64.wrap n % (m : Int) := Int.emod_nonneg _ (by omega)
  have h4 : IntKind.u64.wrap n % (m : Int) < (m : Int) := Int.emod_lt_of_pos _ (by omega)
  refine ⟨(IntKind.u64.wrap n % (m : Int)).toNat, by omega, by rw [h2]; omega, ?_⟩
  rw [h2]
  unfold wrap64
  omega
end Ref
namespace Rq
theorem own_two {w : World} {q1 q2 : Nat → Prop} {i1 i2 : Nat} {spec : List Sp} (h1 : ∀ k, q1 k → k < w.heap.size) (h2 : ∀ k, q2 k → k < w.heap.size) (hd : ∀ k, q1 k → q2 k → False)
    (h : ∀ s ∈ spec, s.own = free ∨ (s.ix = i1 ∧ s.own = q1) ∨ (s.ix = i2 ∧ s.own = q2)) : Own (fun k => k < w.heap.size ∧ ¬ q1 k ∧ ¬ q2 k) w spec :=
  ⟨fun k hk => hk.1, fun j s hs k hk => by
    rcases h s (look_mem hs).1 with h | ⟨_, h⟩ | ⟨_, h⟩
    · rw [h] at hk; exact hk.elim
    · rw [h] at hk; exact ⟨fun hn => hn.2.1 hk, h1 k hk⟩
    · rw [h] at hk; exact ⟨fun hn => hn.2.2 hk, h2 k hk⟩, fun a b s t hs ht hab k hk hk' => by
    have hs' := look_mem hs
    have ht' := look_mem ht
    rcases h s hs'.1 with e | ⟨e, o⟩ | ⟨e, o⟩
    · rw [e] at hk; exact hk
    · rcases h t ht'.1 with e' | ⟨e', o'⟩ | ⟨e', o'⟩
      · rw [e'] at hk'; exact hk'
      · exact hab (by rw [← hs'.2, ← ht'.2, e, e'])
      · rw [o] at hk; rw [o'] at hk'; exact hd k hk hk'
    · rcases h t ht'.1 with e' | ⟨e', o'⟩ | ⟨e', o'⟩
      · rw [e'] at hk'; exact hk'
      · rw [o] at hk; rw [o'] at hk'; exact hd k hk' hk
      · exact hab (by rw [← hs'.2, ← ht'.2, e, e'])⟩
end Rq
namespace Ref
/-- One byte of one sum of a row of one's own, stored. -/
theorem OwL.setbyte {w : World} {B g c m k : Nat} {O : List (List UInt8)} (h : OwL w B (.slice (some ⟨g, 0, none⟩) O.length c) O) (hm : m < O.length) (hk : k < 32) (z : UInt8) :
    w.cell? ⟨g, m * 32 + k, none⟩ = some (.int .u8 ((bt (O.getD m []) k).toNat : Int)) ∧ w.frozen? ⟨g, m * 32 + k, none⟩ = false ∧
    OwL (w.setCell ⟨g, m * 32 + k, none⟩ (.int .u8 (z.toNat : Int))) B (.slice (some ⟨g, 0, none⟩) (O.set m ((O.getD m []).set k z)).length c) (O.set m ((O.getD m []).set k z)) := by
  have hl := h.1.getD hm
  have hfl := h.1.flat
  have hs := h.1.set m (y := (O.getD m []).set k z) (by rw [List.length_set]; exact hl)
  have hsf := hs.flat
  rw [List.length_set] at hsf
  obtain ⟨h1, h2⟩ := h.2
  rcases h2 with ⟨hv, _⟩ | ⟨g', cap, cur, fz, hv, hb, hg, hf, hnc, hcm, hcs, ht⟩
  · cases hv
  · cases hv
    have hle : O.length * 32 ≤ c * 32 := Nat.mul_le_mul_right _ hnc
    have hlt : m * 32 + k < O.length * 32 := by omega
    have hc : cur[m * 32 + k]? = some (.int .u8 ((bt (O.getD m []) k).toNat : Int)) := by
      have e := flat_get m h.1 hm k hk
      have hb2 : (bys (O.getD m []))[k]? = some (.int .u8 ((bt (O.getD m []) k).toNat : Int)) := by
        have := bys_get (O.getD m []) k (by omega)
        simpa [bt] using this
      have : (bys O.flatten)[m * 32 + k]? = some (.int .u8 ((bt (O.getD m []) k).toNat : Int)) := by
        rw [← hb2]
        unfold bys
        rw [List.getElem?_map, e, List.getElem?_map]
      rw [← ht, List.getElem?_take, if_pos hlt] at this
      simpa using this
    refine ⟨by rw [cell_of_row w g _ _ _ _ hg]; exact hc, frozen_row hg (hf _ (by omega)), hs, ?_⟩
    rw [List.length_set]
    refine ⟨by rw [bys_length, hsf], .inr ⟨g, c, cur.setIfInBounds (m * 32 + k) (.int .u8 (z.toNat : Int)), fz, rfl, hb, ?_, ?_, hnc, hcm, by simpa using hcs, ?_⟩⟩
    · rw [setCell_eq_setRow w g _ cur _ fz _ hg]
      exact setRow_heap w g cur _ _ fz hg
    · intro i hi
      rw [Array.size_setIfInBounds] at hi
      exact hf i hi
    · refine List.ext_getElem? fun j => ?_
      rw [List.getElem?_take]
      by_cases hj : j < O.length * 32
      · rw [if_pos hj, Array.getElem?_toList, Array.getElem?_setIfInBounds]
        obtain ⟨x, r, hr, rfl⟩ : ∃ x r, r < 32 ∧ j = x * 32 + r := ⟨j / 32, j % 32, Nat.mod_lt _ (by decide), by omega⟩
        have hx : x < O.length := by omega
        have e1 := flat_get x hs (by rw [List.length_set]; exact hx) r hr
        have e0 := flat_get x h.1 hx r hr
        have ho : cur[x * 32 + r]? = (bys O.flatten)[x * 32 + r]? := by rw [← ht, List.getElem?_take, if_pos hj, Array.getElem?_toList]
        unfold bys at ho ⊢
        rw [List.getElem?_map, e1]
        by_cases hxm : x = m
        · subst hxm
          have e2 : (O.set x ((O.getD x []).set k z)).getD x [] = (O.getD x []).set k z := by simp [List.getD, hx]
          rw [e2]
          by_cases hrk : r = k
          · subst hrk
            rw [if_pos rfl, if_pos (by omega), List.getElem?_set_self (by omega)]
            rfl
          · rw [if_neg (by omega), List.getElem?_set_ne (fun e => hrk e.symm), ho, List.getElem?_map, e0]
        · have e2 : (O.set m ((O.getD m []).set k z)).getD x [] = O.getD x [] := by simp [List.getD, List.getElem?_set_ne (fun e => hxm e.symm)]
          rw [e2, if_neg (by omega), ho, List.getElem?_map, e0]
      · rw [if_neg hj, List.getElem?_eq_none (by rw [bys_length, hsf]; omega)]
set_option maxRecDepth 100000 in
set_option maxHeartbeats 16000000 in
theorem rfclogBent_any (q : Option Addr) (c : Nat) (L : List (List UInt8)) (i at' : Int) (w : World) (hS : Sha.Tabs w) (hR : Ref.Tabs w) (hp : RawParts w (.slice q L.length c) L) :
    Calls Tryd.prog 11 #[.slice q L.length c, .int .i64 i, .int .i64 at'] w fun e w' => e = .returned (.bool true) ∧ Below w.heap.size w w' := by
  have HS := Lib.hid hS
  have HR := Lib.hid hR
  have HP := Lib.hid hp
  clear hS hR hp
  go_enter Tryd.func11, Tryd.ntmps11
  go_wp2_with fail
  refine (fill_any q c L w HS.out HP.out).mono ?_
  rintro e w1 ⟨lb, base, lq, lc, qw, cw, rfl, h1, h2, h3, hL, hO, hb1⟩
  obtain ⟨N, hN⟩ : ∃ N, N = few L 20 60 := ⟨_, rfl⟩
  rw [← hN] at hL hO ⊢
  have hN20 : N.length ≤ 20 := by rw [hN, few_length]; omega
  have HN60 : Hid (∀ x ∈ N, x.length ≤ 1000) := Lib.hid (fun x hx => by
    rw [hN] at hx
    obtain ⟨y, _, rfl⟩ := List.mem_map.1 hx
    rw [List.length_take]
    omega)
  obtain ⟨D, hD⟩ : ∃ D, D = N.map leafS := ⟨_, rfl⟩
  rw [← hD] at hL
  have HDL : Hid (D.length = N.length) := Lib.hid (by rw [hD, List.length_map])
  have HDA : Hid (All32 D) := Lib.hid (by rw [hD]; intro x hx; obtain ⟨y, _, rfl⟩ := List.mem_map.1 hx; exact leafS_length y)
  have hD1000 : D.length ≤ 1000 := by have := HDL.out; omega
  have HB1 := Lib.hid hb1
  have HL1 := Lib.hid hL
  have HO1 := Lib.hid (Rd.of_ow hO)
  have hcw := (Rd_cap (Rd.of_ow hO)).1
  clear hb1 hL hO h1 h2 h3 hN hD HP
  go_wp2_with fail
  refine (logs_any w1 (HS.out.below HB1.out) (HR.out.below HB1.out)).mono ?_
  rintro e w2 ⟨rfl, hb2⟩
  have HB2 : Hid (Below w.heap.size w w2) := Lib.hid (HB1.out.trans (hb2.mono HB1.out.size))
  have HL2 := Lib.hid (HL1.out.below hb2)
  have HO2 := Lib.hid (HO1.out.below hb2)
  clear hb2 HL1 HO1 HB1
  by_cases hN0 : N.length = 0
  · have hNI : ((N.length : Int) == 0) = true := by rw [beq_iff_eq]; omega
    clear hN0
    go_wp2_with fail
    refine (logs_any w2 (HS.out.below HB2.out) (HR.out.below HB2.out)).mono ?_
    rintro e w3 ⟨rfl, hb3⟩
    have HB3 : Hid (Below w.heap.size w w3) := Lib.hid (HB2.out.trans (hb3.mono HB2.out.size))
    clear hb3
    go_wp2_with fail
    go_ret
    exact ⟨rfl, HB3.out⟩
  · have hNI : ((N.length : Int) == 0) = false := by rw [beq_eq_false_iff_ne]; omega
    obtain ⟨b, hb⟩ : ∃ b, b = N.length := ⟨_, rfl⟩
    have hb0 : 0 < b := by omega
    rw [← hb] at hN20 HDL hcw hNI ⊢
    obtain ⟨a, ha, _, hmod⟩ := modlen16 i b hb0 (by omega)
    have HO3 : Hid (Rd w2 1 (.slice qw b cw) b (strs N)) := Lib.hid (by rw [hb]; exact HO2.out)
    have HBN := Lib.hid hb
    have HOLT : Hid (∀ k, (Value.slice qw b cw).ownBlock = some k → k < w2.heap.size) := Lib.hid (HO3.out.ltB)
    have hbI0 : ((b : Int) == 0) = false := hNI
    have hbnz : ¬ (b : Int) = 0 := by omega
    clear hN0 hb HO2
    have hab1 : a + 1 ≤ b := by omega
    have hbD : b ≤ D.length := by have := HDL.out; omega
    have hb63 : (b : Int) ≤ 9223372036854775807 := by omega
    have htk : D.take b = D := List.take_of_length_le (by have := HDL.out; omega)
    obtain ⟨PP, hPP⟩ : ∃ PP, PP = Rfc.path nodeS (sha []) D a := ⟨_, rfl⟩
    obtain ⟨QQ, hQQ⟩ : ∃ QQ, QQ = subS D (a + 1) true := ⟨_, rfl⟩
    obtain ⟨Rn, hRn⟩ : ∃ Rn, Rn = treeS D := ⟨_, rfl⟩
    obtain ⟨Ra, hRa⟩ : ∃ Ra, Ra = treeS (D.take (a + 1)) := ⟨_, rfl⟩
    have hran : rootAns D b = .tuple #[.agg (bysA Rn), .int .i64 0] := by rw [rootAns_of D b hbD, htk, hRn]
    have hraa : rootAns D ((a : Int) + 1) = .tuple #[.agg (bysA Ra), .int .i64 0] := by rw [hRa]; exact rootAns_of D (a + 1) (by omega)
    have HNL : Hid (Rn.length = 32) := Lib.hid (by rw [hRn]; exact treeS_length _ HDA.out)
    have HAL : Hid (Ra.length = 32) := Lib.hid (by rw [hRa]; exact treeS_length _ (HDA.out.take _))
    have HIN := Lib.hid (info_of HNL.out)
    have HIA := Lib.hid (info_of HAL.out)
    have hPl : PP.length ≤ 20 := by rw [hPP]; have := pathS_le D.length D a rfl; have := HDL.out; omega
    have hQl : QQ.length ≤ 21 := by rw [hQQ]; have := subS_len D.length D (a + 1) true rfl; have := HDL.out; omega
    obtain ⟨X, hX⟩ : ∃ X, X = N.getD a [] := ⟨_, rfl⟩
    have HXL : Hid (X.length ≤ 1000) := Lib.hid (HN60.out X (by have := HBN.out; rw [hX, show N.getD a [] = N[a] by simp [List.getD, show a < N.length by omega]]; exact List.getElem_mem _))
    have HXX := Lib.hid hX
    have hincl := inclusion_any lb base lq lc D a b w2 (HS.out.below HB2.out) HL2.out hD1000 hbD ha (rev_any _)
    rw [htk, ← hPP] at hincl
    have HINC := Lib.hid hincl
    have HPPE := Lib.hid hPP
    have HQQE := Lib.hid hQQ
    have HTKE := Lib.hid htk
    clear hincl hX hRn hRa hPP hQQ htk
    go_wp2_with fail
    refine HINC.out.mono ?_
    rintro e w3 ⟨pq, pc, rfl, hop, hb3⟩
    have HP3 := Lib.hid hop
    have hsep3 : ∀ k, (Value.slice pq PP.length pc).ownBlock = some k → w2.heap.size ≤ k ∧ k < w3.heap.size := fun k hk => hop.2.lt k hk
    have HSEP := Lib.hid hsep3
    have HL3 := Lib.hid (HL2.out.below hb3)
    have HO3' := Lib.hid (HO3.out.below hb3)
    have HB3 : Hid (Below w.heap.size w w3) := Lib.hid (HB2.out.trans (hb3.mono HB2.out.size))
    have hz23 : w2.heap.size ≤ w3.heap.size := hb3.size
    clear hop hb3 hsep3 HINC HL2 HO3
    go_wp2_with fail
    have hcons : Calls Tryd.prog 39 #[.pointer (some ⟨lb, 0, none⟩), .int .i64 ((a : Int) + 1), .int .i64 b] w3 fun e w' =>
      ∃ q' c', e = .returned (.tuple #[.slice q' (subS (D.take b) (a + 1) true).length c', .int .i64 0]) ∧ OwL w' w3.heap.size (.slice q' (subS (D.take b) (a + 1) true).length c') (subS (D.take b) (a + 1) true) ∧ Below w3.heap.size w3 w' := consistency_any lb base lq lc D (a + 1) b w3 (HS.out.below HB3.out) HL3.out hD1000 hbD hab1
    rw [HTKE.out, ← HQQE.out] at hcons
    refine hcons.mono ?_
    clear hcons
    rintro e w4 ⟨qq, qc, rfl, hoq, hb4⟩
    have HQ4 := Lib.hid hoq
    have HSEQ : Hid (∀ k, (Value.slice qq QQ.length qc).ownBlock = some k → w3.heap.size ≤ k ∧ k < w4.heap.size) := Lib.hid (fun k hk => hoq.2.lt k hk)
    have HP4 := Lib.hid (HP3.out.below hb4)
    have HL4 := Lib.hid (HL3.out.below hb4)
    have HO4 := Lib.hid (HO3'.out.below hb4)
    have HB4 : Hid (Below w.heap.size w w4) := Lib.hid (HB3.out.trans (hb4.mono HB3.out.size))
    have hz34 : w3.heap.size ≤ w4.heap.size := hb4.size
    clear hoq hb4 HP3 HL3 HO3'
    go_wp2_with fail
    refine (logroot_any lb base lq lc D b w4 (HS.out.below HB4.out) HL4.out (by omega)).mono ?_
    rintro e w5 ⟨rfl, hb2⟩
    rw [hran]
    obtain ⟨w6, hw3⟩ : ∃ w3, w3 = World.alloc w5 (.cells (bysA Rn) 22) := ⟨_, rfl⟩
    have hb3 : Below (World.heap w4).size w4 w6 := by rw [hw3]; exact hb2.alloc hb2.size _
    have HRB6 : Hid ((World.heap w6)[(World.heap w5).size]? = some (.cells (bysA Rn) 22 (0, 0))) := Lib.hid (by rw [hw3]; exact Rg.heap_alloc_at _ _ _ rfl)
    have HB6 : Hid (Below w.heap.size w w6) := Lib.hid (HB4.out.trans (hb3.mono HB4.out.size))
    have HL6 := Lib.hid (HL4.out.below hb3)
    have HLE6 : Hid (Below (World.heap w4).size w4 w6) := Lib.hid hb3
    have hsz6 : (World.heap w4).size ≤ (World.heap w5).size := hb2.size
    have HSZ6 : Hid ((World.heap w6).size = (World.heap w5).size + 1) := Lib.hid (by rw [hw3]; simp)
    have HW3 := Lib.hid hw3
    clear hw3 hb3 hb2
    go_wp2_with (refine Rg.store_row_new rfl 22 _ _ rfl (World.heap w5).size rfl rfl 22 _ (bysA Rn) rfl HIN.out (by rw [bysA_size, HNL.out]; rfl) (bysA_one _) ?_; refine Hid.out ?_)
    rw [← HW3.out]
    clear HW3
    refine Lib.hid ?_
    have HP6 := Lib.hid (HP4.out.below HLE6.out)
    have HQ6 := Lib.hid (HQ4.out.below HLE6.out)
    have HO6 := Lib.hid (HO4.out.below HLE6.out)
    obtain ⟨rb, hrb⟩ : ∃ rb, rb = w5.heap.size := ⟨_, rfl⟩
    rw [← hrb] at HRB6 hsz6 ⊢
    clear hrb HSZ6 HLE6 HP4 HQ4 HO4 HL4
    go_wp2_with fail
    refine (logroot_any lb base lq lc D ((a : Int) + 1) w6 (HS.out.below HB6.out) HL6.out (by omega)).mono ?_
    rintro e w7 ⟨rfl, hb2⟩
    rw [hraa]
    obtain ⟨w8, hw3⟩ : ∃ w3, w3 = World.alloc w7 (.cells (bysA Ra) 22) := ⟨_, rfl⟩
    have hb3 : Below (World.heap w6).size w6 w8 := by rw [hw3]; exact hb2.alloc hb2.size _
    have HRB8 : Hid ((World.heap w8)[(World.heap w7).size]? = some (.cells (bysA Ra) 22 (0, 0))) := Lib.hid (by rw [hw3]; exact Rg.heap_alloc_at _ _ _ rfl)
    have HB8 : Hid (Below w.heap.size w w8) := Lib.hid (HB6.out.trans (hb3.mono HB6.out.size))
    have HL8 := Lib.hid (HL6.out.below hb3)
    have HLE8 : Hid (Below (World.heap w6).size w6 w8) := Lib.hid hb3
    have hsz8 : (World.heap w6).size ≤ (World.heap w7).size := hb2.size
    have HSZ8 : Hid ((World.heap w8).size = (World.heap w7).size + 1) := Lib.hid (by rw [hw3]; simp)
    have HW3 := Lib.hid hw3
    clear hw3 hb3 hb2
    go_wp2_with (refine Rg.store_row_new rfl 22 _ _ rfl (World.heap w7).size rfl rfl 22 _ (bysA Ra) rfl HIA.out (by rw [bysA_size, HAL.out]; rfl) (bysA_one _) ?_; refine Hid.out ?_)
    rw [← HW3.out]
    clear HW3
    refine Lib.hid ?_
    have HP8 := Lib.hid (HP6.out.below HLE8.out)
    have HQ8 := Lib.hid (HQ6.out.below HLE8.out)
    have HO8 := Lib.hid (HO6.out.below HLE8.out)
    have HRN8 := Lib.hid (Rp.row_le HLE8.out HRB6.out)
    obtain ⟨ob, hob⟩ : ∃ ob, ob = w7.heap.size := ⟨_, rfl⟩
    have hrob : rb < ob := by rw [hob]; have := lt_of_heap HRB6.out; omega
    rw [← hob] at HRB8 ⊢
    clear hob hsz8 HSZ8 HLE8 HP6 HQ6 HO6 HL6 HRB6 HB4 HB6
    have HZ : Hid (w.heap.size ≤ w2.heap.size ∧ w2.heap.size ≤ w3.heap.size ∧ w3.heap.size ≤ w4.heap.size ∧ w4.heap.size ≤ rb ∧ rb < ob) := Lib.hid ⟨HB2.out.size, hz23, hz34, hsz6, hrob⟩
    have HZ8 : Hid (w3.heap.size ≤ w8.heap.size ∧ w2.heap.size ≤ w8.heap.size) := Lib.hid (by have := HZ.out; have := lt_of_heap HRB8.out; omega)
    have HOB : Hid (∀ k, (Value.slice qw b cw).ownBlock = some k → k < w2.heap.size) := Lib.hid HOLT.out
    clear hz23 hz34 hsz6 hrob
    obtain ⟨v, hv3, hmodv, _⟩ := modlen16 at' 3 (by decide) (by decide)
    have hmv : (IntKind.u64.wrap at').tmod 3 = (v : Int) := hmodv
    clear hmodv
    have hv : v = 0 ∨ v = 1 ∨ v = 2 := by omega
    rcases hv with rfl | rfl | rfl
    · have hm0 : (IntKind.u64.wrap at').tmod 3 = 0 := hmv
      clear hmv
      have HLPP : Hid ((PP ++ [Rn]).length = PP.length + 1) := Lib.hid (by simp)
      have HLQQ : Hid ((QQ ++ [Ra]).length = QQ.length + 1) := Lib.hid (by simp)
      have hfn := fill_all (bysA Rn) (bysA zeros32) (by rw [bysA_size, HNL.out]; rfl)
      have hfa := fill_all (bysA Ra) (bysA zeros32) (by rw [bysA_size, HAL.out]; rfl)
      have hsn : (bysA Rn).size = 32 := by rw [bysA_size, HNL.out]
      have hsa : (bysA Ra).size = 32 := by rw [bysA_size, HAL.out]
      rw [hsn] at hfn
      rw [hsa] at hfa
      have HFN := Lib.hid hfn
      have HFA := Lib.hid hfa
      clear hfn hfa
      obtain ⟨i0, hi0, hz0, hz1, hz2⟩ := parts3 infoA32
      have hns : rb < w8.heap.size ∧ ob < w8.heap.size := ⟨lt_of_heap HRN8.out, lt_of_heap HRB8.out⟩
      have hrbn : ¬ (Value.slice pq PP.length pc).ownBlock = some rb ∧ ¬ (Value.slice qq QQ.length qc).ownBlock = some rb := ⟨fun e => by have := HSEP.out rb e; have := HZ.out; omega, fun e => by have := HSEQ.out rb e; have := HZ.out; omega⟩
      have hobn : ¬ (Value.slice pq PP.length pc).ownBlock = some ob ∧ ¬ (Value.slice qq QQ.length qc).ownBlock = some ob := ⟨fun e => by have := HSEP.out ob e; have := HZ.out; omega, fun e => by have := HSEQ.out ob e; have := HZ.out; omega⟩
      have HPR := Lib.hid (And.intro hrbn hobn)
      have HNS := Lib.hid hns
      clear hrbn hobn hns
      go_wp2_with fail
      refine Rq.region (fun k => k < w8.heap.size ∧ ¬ ((Value.slice pq PP.length pc).ownBlock = some k) ∧ ¬ ((Value.slice qq QQ.length qc).ownBlock = some k)) 8 [⟨2, [], [], some (fun _ pj => .slice pj.q 1 1), fun _ pj _ y => Rd y 32 (.slice pj.q 1 1) 1 (bysA Rn).toList, Rq.free⟩, ⟨3, [2], [], some (fun _ pj => .slice pj.q (PP.length + 1) pj.c), fun _ pj _ y => Rd y 32 (.slice pj.q (PP.length + 1) pj.c) (PP.length + 1) (bys PP.flatten ++ (bysA Rn).toList), fun k => (Value.slice pq PP.length pc).ownBlock = some k⟩, ⟨6, [], [], some (fun _ pj => .slice pj.q 1 1), fun _ pj _ y => Rd y 32 (.slice pj.q 1 1) 1 (bysA Ra).toList, Rq.free⟩, ⟨7, [6], [], some (fun _ pj => .slice pj.q (QQ.length + 1) pj.c), fun _ pj _ y => Rd y 32 (.slice pj.q (QQ.length + 1) pj.c) (QQ.length + 1) (bys QQ.flatten ++ (bysA Ra).toList), fun k => (Value.slice qq QQ.length qc).ownBlock = some k⟩] [3, 7] (by kernel_rfl) (Rq.own_two (i1 := 3) (i2 := 7) (fun k hk => (HP8.out.2.lt k hk).2) (fun k hk => (HQ8.out.2.lt k hk).2) (fun k h1 h2 => by have := HSEP.out k h1; have := HSEQ.out k h2; omega) (by simp)) (by kernel_rfl) ?_; intro p; simp only [List.take, List.drop]
      iterate 1 (refine Rq.rK rfl rfl ?_; intro K hK; apply Exists.intro; refine ⟨?_, ?_⟩; (focus (intro x hx;  go_simp; (first | (fail) | ((try go_bits); (try go_simp); (try rfl))))); go_simp; refine hK _ ?_; clear hK K)
      refine Rq.r_load rfl rfl _ _ rfl (.agg (bysA Rn)) (fun x hx => load_whole ((Rq.undrew hx).row (by exact ⟨HNS.out.1, HPR.out.1⟩) HRN8.out) HNL.out) ?_; intro K hK; go_simp; refine hK _ ?_; clear hK K
      refine Rq.cK rfl rfl rfl ?_ ?_
      · intro x Fs hx ho hg K hK
        have hlit := Rd_lit x (bysA Rn) 22 32 1 (by rw [bysA_size, HNL.out]) (by decide)
        go_wp2_with fail
        rw [z32r, HFN.out]
        refine hK ⟨some ⟨x.heap.size, 0, none⟩, 1, undef⟩ _ (Rc.Eff.of_below ((Below.refl _ _).alloc (Nat.le_refl _) _) _) fun y hy => ?_
        exact hlit.kpq (fun k hk => by cases hk; exact hy.block _ (by simp) (.inr (.inr ⟨Nat.le_refl _, by simp⟩)))
      intro K hK; go_simp; refine hK _ ?_; clear hK K
      refine Rq.cK rfl rfl rfl ?_ ?_
      · intro x Fs hx ho hg K hK
        have hown2 : Ow x w2.heap.size 22 32 (.slice pq PP.length pc) PP.length (bys PP.flatten) := HP8.out.2.kpq (fun k hk => ho k hk)
        have hsrc : Rd x 32 (.slice (p 2).q 1 1) 1 (bysA Rn).toList := hg.1
        have hsx : w2.heap.size ≤ x.heap.size := by have := hx.size; have := HZ8.out; have : w8.drew.heap.size = w8.heap.size := rfl; omega
        go_wp2_with (at_builtin; go_must (refine app_ow3 rfl _ _ 61 61 rfl w2.heap.size 22 i0 (.agg (bysA zeros32)) 32 32 Tryd.underlying61 hi0 hz0 hz1 hz2 (by rfl) _ PP.length _ rfl hown2 1 _ rfl (Rd.src Tryd.underlying61 hsrc (bys_one _)) (by unfold maxLen; omega) (by omega) hsx ?_); go_must (intro v3 wn how3 hg3 hnew3); go_must (obtain ⟨q3, c3, rfl⟩ := Ow_form how3))
        have hg3 : x.grownBy wn (Value.slice pq PP.length pc).ownBlock := hg3
        have hnew3 : ∀ k, (Value.slice q3 (PP.length + 1) c3).ownBlock = some k → (Value.slice pq PP.length pc).ownBlock = some k ∨ x.heap.size ≤ k := hnew3
        refine hK ⟨q3, c3, undef⟩ wn ⟨hg3.os, hg3.tape, hg3.output, hg3.size, fun j hj hn => hg3.block j hj fun e => hn (.inr e.symm)⟩ fun y hy => (Rd.of_ow how3).kpq fun k hk => hy.block k (how3.lt k hk).2 (.inr ?_)
        rcases hnew3 k hk with h | h
        · exact .inl (.inr h)
        · exact .inr ⟨h, (how3.lt k hk).2⟩
      intro K hK; go_simp; refine hK _ ?_; clear hK K
      iterate 1 (refine Rq.rK rfl rfl ?_; intro K hK; apply Exists.intro; refine ⟨?_, ?_⟩; (focus (intro x hx;  go_simp; (first | (fail) | ((try go_bits); (try go_simp); (try rfl))))); go_simp; refine hK _ ?_; clear hK K)
      refine Rq.r_load rfl rfl _ _ rfl (.agg (bysA Ra)) (fun x hx => load_whole ((Rq.undrew hx).row (by exact ⟨HNS.out.2, HPR.out.2⟩) HRB8.out) HAL.out) ?_; intro K hK; go_simp; refine hK _ ?_; clear hK K
      refine Rq.cK rfl rfl rfl ?_ ?_
      · intro x Fs hx ho hg K hK
        have hlit := Rd_lit x (bysA Ra) 22 32 1 (by rw [bysA_size, HAL.out]) (by decide)
        go_wp2_with fail
        rw [z32r, HFA.out]
        refine hK ⟨some ⟨x.heap.size, 0, none⟩, 1, undef⟩ _ (Rc.Eff.of_below ((Below.refl _ _).alloc (Nat.le_refl _) _) _) fun y hy => ?_
        exact hlit.kpq (fun k hk => by cases hk; exact hy.block _ (by simp) (.inr (.inr ⟨Nat.le_refl _, by simp⟩)))
      intro K hK; go_simp; refine hK _ ?_; clear hK K
      refine Rq.cK rfl rfl rfl ?_ ?_
      · intro x Fs hx ho hg K hK
        have hown2 : Ow x w3.heap.size 22 32 (.slice qq QQ.length qc) QQ.length (bys QQ.flatten) := HQ8.out.2.kpq (fun k hk => ho k hk)
        have hsrc : Rd x 32 (.slice (p 6).q 1 1) 1 (bysA Ra).toList := hg.1
        have hsx : w3.heap.size ≤ x.heap.size := by have := hx.size; have := HZ8.out; have : w8.drew.heap.size = w8.heap.size := rfl; omega
        go_wp2_with (at_builtin; go_must (refine app_ow3 rfl _ _ 61 61 rfl w3.heap.size 22 i0 (.agg (bysA zeros32)) 32 32 Tryd.underlying61 hi0 hz0 hz1 hz2 (by rfl) _ QQ.length _ rfl hown2 1 _ rfl (Rd.src Tryd.underlying61 hsrc (bys_one _)) (by unfold maxLen; omega) (by omega) hsx ?_); go_must (intro v3 wn how3 hg3 hnew3); go_must (obtain ⟨q3, c3, rfl⟩ := Ow_form how3))
        have hg3 : x.grownBy wn (Value.slice qq QQ.length qc).ownBlock := hg3
        have hnew3 : ∀ k, (Value.slice q3 (QQ.length + 1) c3).ownBlock = some k → (Value.slice qq QQ.length qc).ownBlock = some k ∨ x.heap.size ≤ k := hnew3
        refine hK ⟨q3, c3, undef⟩ wn ⟨hg3.os, hg3.tape, hg3.output, hg3.size, fun j hj hn => hg3.block j hj fun e => hn (.inr e.symm)⟩ fun y hy => (Rd.of_ow how3).kpq fun k hk => hy.block k (how3.lt k hk).2 (.inr ?_)
        rcases hnew3 k hk with h | h
        · exact .inl (.inr h)
        · exact .inr ⟨h, (how3.lt k hk).2⟩
      intro K hK; go_simp; refine hK _ ?_; clear hK K
      refine Rq.done fun x Fs hx hg => ?_
      obtain ⟨p2, hp2⟩ : ∃ p2, p2 = (p 3).q := ⟨_, rfl⟩
      obtain ⟨pc2, hpc2⟩ : ∃ pc2, pc2 = (p 3).c := ⟨_, rfl⟩
      obtain ⟨q2, hq2⟩ : ∃ q2, q2 = (p 7).q := ⟨_, rfl⟩
      obtain ⟨qc2, hqc2⟩ : ∃ qc2, qc2 = (p 7).c := ⟨_, rfl⟩
      have hf3 : Rd x 32 (.slice (p 3).q (PP.length + 1) (p 3).c) (PP.length + 1) (bys PP.flatten ++ (bysA Rn).toList) := hg.1
      have hf7 : Rd x 32 (.slice (p 7).q (QQ.length + 1) (p 7).c) (QQ.length + 1) (bys QQ.flatten ++ (bysA Ra).toList) := hg.2.1
      rw [← hp2, ← hpc2] at hf3
      rw [← hq2, ← hqc2] at hf7
      rw [← hp2, ← hpc2, ← hq2, ← hqc2]
      obtain ⟨P2, hP2⟩ : ∃ P2, P2 = PP ++ [Rn] := ⟨_, rfl⟩
      obtain ⟨Q2, hQ2e⟩ : ∃ Q2, Q2 = QQ ++ [Ra] := ⟨_, rfl⟩
      have hlp : PP.length + 1 = P2.length := by rw [hP2]; exact HLPP.out.symm
      have hlq : QQ.length + 1 = Q2.length := by rw [hQ2e]; exact HLQQ.out.symm
      rw [hlp] at hf3 ⊢
      rw [hlq] at hf7 ⊢
      have HP9 : Hid (RdL x (.slice p2 P2.length pc2) P2) := Lib.hid ⟨by rw [hP2]; exact HP8.out.1.append (All32.one HNL.out), by
        have e : bys P2.flatten = bys PP.flatten ++ (bysA Rn).toList := by rw [hP2, List.flatten_append, bys_append]; simp [bysA]
        rw [e]
        exact hf3⟩
      have HQ9 : Hid (RdL x (.slice q2 Q2.length qc2) Q2) := Lib.hid ⟨by rw [hQ2e]; exact HQ8.out.1.append (All32.one HAL.out), by
        have e : bys Q2.flatten = bys QQ.flatten ++ (bysA Ra).toList := by rw [hQ2e, List.flatten_append, bys_append]; simp [bysA]
        rw [e]
        exact hf7⟩
      have hsame := Rq.undrew hx
      have hbelow : Below w2.heap.size w8 x := ⟨hsame.os, hsame.tape, hsame.output, hsame.size, fun k hk => hsame.block k ⟨by have := HZ8.out; omega, fun e => by have := HSEP.out k e; omega, fun e => by have := HSEQ.out k e; have := HZ.out; omega⟩⟩
      have HB9 : Hid (Below w.heap.size w x) := Lib.hid (HB8.out.trans (hbelow.mono HZ.out.1))
      have HO9 : Hid (Rd x 1 (.slice qw b cw) b (strs N)) := Lib.hid (HO8.out.kpq (fun k hk => hbelow.block k (HOB.out k hk)))
      have HRB9 : Hid (x.heap[rb]? = some (.cells (bysA Rn) 22 (0, 0))) := Lib.hid (hsame.row (by exact ⟨HNS.out.1, HPR.out.1⟩) HRN8.out)
      have HOB9 : Hid (x.heap[ob]? = some (.cells (bysA Ra) 22 (0, 0))) := Lib.hid (hsame.row (by exact ⟨HNS.out.2, HPR.out.2⟩) HRB8.out)
      have hQ2 : Q2.length ≤ 1000 := by omega
      have hP2l : P2.length ≤ 1000 := by omega
      obtain ⟨wF, hwF⟩ : ∃ wF, wF = x := ⟨_, rfl⟩
      rw [← hwF] at HP9 HQ9 HB9 HO9 HRB9 HOB9 ⊢
      clear hx hg hf3 hf7 hp2 hpc2 hq2 hqc2 hP2 hQ2e hlp hlq hsame hbelow hwF
      go_wp2_with fail
      refine NoPanic.normal ?_
      go_wp2_with fail
      have HE1 : Hid (refchkI X a b P2 Rn = chkI X a b P2 Rn) := Lib.hid (chkI_same _ _ _ _ _)
      have HE2 : Hid (refchkC ((a : Int) + 1) b Q2 Ra Rn = chkC ((a : Int) + 1) b Q2 Ra Rn) := Lib.hid (chkC_same _ _ _ _ _)
      have HPN : Hid (∀ x ∈ P2, x.length ≤ 1000) := Lib.hid (fun x hx => by rw [HP9.out.1 x hx]; decide)
      have HQN : Hid (∀ x ∈ Q2, x.length ≤ 1000) := Lib.hid (fun x hx => by rw [HQ9.out.1 x hx]; decide)
      obtain ⟨E1, hE1⟩ : ∃ E1, E1 = chkI X a b P2 Rn := ⟨_, rfl⟩
      obtain ⟨E2, hE2⟩ : ∃ E2, E2 = chkC ((a : Int) + 1) b Q2 Ra Rn := ⟨_, rfl⟩
      rw [← hE1] at HE1
      rw [← hE2] at HE2
      have HF1 := Lib.hid hE1
      have HF2 := Lib.hid hE2
      obtain ⟨bw, ow, hqw, hbw, _, _, hcw2⟩ := Rd_lt HO9.out hb0
      subst hqw
      have cW : (wF).cell? ⟨bw, ow + a, none⟩ = some (.string ⟨X.toArray⟩) := by rw [HXX.out]; exact hcw2 a _ (strs_get (by have := HBN.out; omega))
      clear hE1 hE2 hcw2


      refine Rc.region ((wF).heap.size) 42 [Rc.F 4 (fun p => .slice p.q X.length p.c) (fun p _ y => Rd y 1 (.slice p.q X.length p.c) X.length (bys X)), Rc.G 9 [4] (fun _ => .int .i64 E1) (fun _ _ _ => True), Rc.F 17 (fun p => .slice p.q P2.length p.c) (fun p _ y => Rd y 1 (.slice p.q P2.length p.c) P2.length (strs P2)), Rc.G 20 [17] (fun _ => .int .i64 E1) (fun _ _ _ => True), Rc.F 29 (fun _ => .int .i64 E2) (fun _ _ _ => True), Rc.F 34 (fun p => .slice p.q Q2.length p.c) (fun p _ y => Rd y 1 (.slice p.q Q2.length p.c) Q2.length (strs Q2)), Rc.G 39 [34] (fun _ => .int .i64 E2) (fun _ _ _ => True)] [] (by kernel_rfl) (Nat.le_refl _) (by kernel_rfl) ?_; intro p; simp only [List.take, List.drop]
      iterate 3 (refine Rc.rK rfl rfl ?_; intro K hK; apply Exists.intro; refine ⟨?_, ?_⟩; (focus (intro x hx;  go_simp; (first | (fail) | ((try go_bits); (try go_simp); (try rfl))))); go_simp; refine hK _ ?_; clear hK K)
      iterate 1 (refine Rc.rK rfl rfl ?_; intro K hK; apply Exists.intro; refine ⟨?_, ?_⟩; (focus (intro x hx; have d0 := Rc.cell_le hx hbw cW; go_simp; (first | (fail) | ((try go_bits); (try go_simp); (try rfl))))); go_simp; refine hK _ ?_; clear hK K)
      refine Rc.fK rfl rfl rfl rfl ?_ ?_
      · intro x Fs hx hle hg K hK
        refine conv_bytes rfl 9 23 _ rfl 5 Tryd.underlying9 Tryd.underlying23 Tryd.underlying5 ⟨X.toArray⟩ rfl x.heap.size (Nat.le_refl _) (by show X.length ≤ maxLen; have := HXL.out; unfold maxLen; omega) ?_
        intro v x' how hb
        have how : Ow x' x.heap.size 5 1 v X.length (bys X) := how
        obtain ⟨q', c', rfl⟩ := Ow_form how
        go_wp2_with fail
        exact hK ⟨q', c', undef⟩ x' hb (fun F y hF hy => (Rd.of_ow how).keeps hy (fun k hk => .inr (hF k (how.lt k hk).1 (how.lt k hk).2)))
      intro K hK; go_simp; refine hK _ ?_; clear hK K
      iterate 3 (refine Rc.rK rfl rfl ?_; intro K hK; apply Exists.intro; refine ⟨?_, ?_⟩; (focus (intro x hx;  go_simp; (first | (fail) | ((try go_bits); (try go_simp); (try rfl))))); go_simp; refine hK _ ?_; clear hK K)
      refine Rc.r_load rfl rfl _ _ rfl (.agg (bysA Rn)) (fun x hx => load_whole (Rp.row_le (Rc.undrew hx) HRB9.out) HNL.out) ?_; intro K hK; go_simp; refine hK _ ?_; clear hK K
      refine Rc.fK rfl rfl rfl rfl ?_ ?_
      · intro x Fs hx hle hg K hK
        have hbx : Below w.heap.size w x := HB9.out.trans ((Rc.undrew hx).mono HB9.out.size)
        have hck := (by rw [HF1.out]; exact checkI_any (p 4).q (p 4).c X a b p2 pc2 P2 Rn x (HS.out.below hbx) hg.1 (by have := HXL.out; omega) (HP9.out.below (Rc.undrew hx)) HNL.out hb63 : Calls Tryd.prog 35 #[.slice (p 4).q X.length (p 4).c, .int .i64 a, .int .i64 b, .slice p2 P2.length pc2, .agg (bysA Rn)] x fun e w' => e = .returned (.int .i64 E1) ∧ Below x.heap.size x w')
        have HCC := Lib.hid hck
        clear hck hg
        go_wp2_with fail
        refine HCC.out.mono ?_
        rintro e x' ⟨rfl, hb⟩
        go_wp2_with fail
        exact hK Rc.dflt x' hb (fun _ _ _ _ => trivial)
      intro K hK; go_simp; refine hK _ ?_; clear hK K
      iterate 3 (refine Rc.rK rfl rfl ?_; intro K hK; apply Exists.intro; refine ⟨?_, ?_⟩; (focus (intro x hx;  go_simp; (first | (fail) | ((try go_bits); (try go_simp); (try rfl))))); go_simp; refine hK _ ?_; clear hK K)
      iterate 1 (refine Rc.rK rfl rfl ?_; intro K hK; apply Exists.intro; refine ⟨?_, ?_⟩; (focus (intro x hx; have d0 := Rc.cell_le hx hbw cW; go_simp; (first | (fail) | ((try go_bits); (try go_simp); (try rfl))))); go_simp; refine hK _ ?_; clear hK K)
      iterate 3 (refine Rc.rK rfl rfl ?_; intro K hK; apply Exists.intro; refine ⟨?_, ?_⟩; (focus (intro x hx;  go_simp; (first | (fail) | ((try go_bits); (try go_simp); (try rfl))))); go_simp; refine hK _ ?_; clear hK K)
      refine Rc.fK rfl rfl rfl rfl ?_ ?_
      · intro x Fs hx hle hg K hK
        have ht := texts16_any p2 pc2 P2 x (HP9.out.below (Rc.undrew hx)) (by omega)
        have HTX := Lib.hid ht
        clear ht
        go_wp2_with fail
        refine HTX.out.mono ?_
        rintro e x' ⟨v, rfl, how, hb⟩
        obtain ⟨q', c', rfl⟩ := Ow_form how
        go_wp2_with fail
        exact hK ⟨q', c', undef⟩ x' hb (fun F y hF hy => (Rd.of_ow how).keeps hy (fun k hk => .inr (hF k (how.lt k hk).1 (how.lt k hk).2)))
      intro K hK; go_simp; refine hK _ ?_; clear hK K
      iterate 1 (refine Rc.rK rfl rfl ?_; intro K hK; apply Exists.intro; refine ⟨?_, ?_⟩; (focus (intro x hx;  go_simp; (first | (fail) | ((try go_bits); (try go_simp); (try rfl))))); go_simp; refine hK _ ?_; clear hK K)
      refine Rc.r_str rfl rfl 23 9 _ rfl 5 Tryd.underlying9 Tryd.underlying23 Tryd.underlying5 _ _ (Rn) rfl (fun x hx => Rp3.row (Rp.row_le (Rc.undrew hx) HRB9.out) HNL.out (by decide)) ?_; intro K hK; go_simp; refine hK _ ?_; clear hK K
      refine Rc.fK rfl rfl rfl rfl ?_ ?_
      · intro x Fs hx hle hg K hK
        have hbx : Below w.heap.size w x := HB9.out.trans ((Rc.undrew hx).mono HB9.out.size)
        have hck := (by rw [← HE1.out]; exact refcheckI_any X a b P2 (p 17).q (p 17).c Rn x HXL.out hb63 HPN.out (HR.out.below hbx) hg.1 : Calls Tryd.prog 37 #[.string ⟨X.toArray⟩, .int .i64 a, .int .i64 b, .slice (p 17).q P2.length (p 17).c, .string ⟨Rn.toArray⟩] x fun e w' => e = .returned (.int .i64 E1) ∧ Below x.heap.size x w')
        have HCC := Lib.hid hck
        clear hck hg
        go_wp2_with fail
        refine HCC.out.mono ?_
        rintro e x' ⟨rfl, hb⟩
        go_wp2_with fail
        exact hK Rc.dflt x' hb (fun _ _ _ _ => trivial)
      intro K hK; go_simp; refine hK _ ?_; clear hK K
      iterate 6 (refine Rc.rK rfl rfl ?_; intro K hK; apply Exists.intro; refine ⟨?_, ?_⟩; (focus (intro x hx;  go_simp; (first | (fail) | ((try go_bits); (try go_simp); (try rfl))))); go_simp; refine hK _ ?_; clear hK K)
      refine Rc.r_load rfl rfl _ _ rfl (.agg (bysA Ra)) (fun x hx => load_whole (Rp.row_le (Rc.undrew hx) HOB9.out) HAL.out) ?_; intro K hK; go_simp; refine hK _ ?_; clear hK K
      refine Rc.r_load rfl rfl _ _ rfl (.agg (bysA Rn)) (fun x hx => load_whole (Rp.row_le (Rc.undrew hx) HRB9.out) HNL.out) ?_; intro K hK; go_simp; refine hK _ ?_; clear hK K
      refine Rc.fK rfl rfl rfl rfl ?_ ?_
      · intro x Fs hx hle hg K hK
        have hbx : Below w.heap.size w x := HB9.out.trans ((Rc.undrew hx).mono HB9.out.size)
        have hck := (by rw [HF2.out]; exact checkC_any ((a : Int) + 1) b q2 qc2 Q2 Ra Rn x (HS.out.below hbx) (HQ9.out.below (Rc.undrew hx)) hQ2 HAL.out HNL.out hb63 : Calls Tryd.prog 36 #[.int .i64 ((a : Int) + 1), .int .i64 b, .slice q2 Q2.length qc2, .agg (bysA Ra), .agg (bysA Rn)] x fun e w' => e = .returned (.int .i64 E2) ∧ Below x.heap.size x w')
        have HCC := Lib.hid hck
        clear hck hg
        go_wp2_with fail
        refine HCC.out.mono ?_
        rintro e x' ⟨rfl, hb⟩
        go_wp2_with fail
        exact hK Rc.dflt x' hb (fun _ _ _ _ => trivial)
      intro K hK; go_simp; refine hK _ ?_; clear hK K
      iterate 4 (refine Rc.rK rfl rfl ?_; intro K hK; apply Exists.intro; refine ⟨?_, ?_⟩; (focus (intro x hx;  go_simp; (first | (fail) | ((try go_bits); (try go_simp); (try rfl))))); go_simp; refine hK _ ?_; clear hK K)
      refine Rc.fK rfl rfl rfl rfl ?_ ?_
      · intro x Fs hx hle hg K hK
        have ht := texts16_any q2 qc2 Q2 x (HQ9.out.below (Rc.undrew hx)) (by omega)
        have HTX := Lib.hid ht
        clear ht
        go_wp2_with fail
        refine HTX.out.mono ?_
        rintro e x' ⟨v, rfl, how, hb⟩
        obtain ⟨q', c', rfl⟩ := Ow_form how
        go_wp2_with fail
        exact hK ⟨q', c', undef⟩ x' hb (fun F y hF hy => (Rd.of_ow how).keeps hy (fun k hk => .inr (hF k (how.lt k hk).1 (how.lt k hk).2)))
      intro K hK; go_simp; refine hK _ ?_; clear hK K
      iterate 1 (refine Rc.rK rfl rfl ?_; intro K hK; apply Exists.intro; refine ⟨?_, ?_⟩; (focus (intro x hx;  go_simp; (first | (fail) | ((try go_bits); (try go_simp); (try rfl))))); go_simp; refine hK _ ?_; clear hK K)
      refine Rc.r_str rfl rfl 23 9 _ rfl 5 Tryd.underlying9 Tryd.underlying23 Tryd.underlying5 _ _ (Ra) rfl (fun x hx => Rp3.row (Rp.row_le (Rc.undrew hx) HOB9.out) HAL.out (by decide)) ?_; intro K hK; go_simp; refine hK _ ?_; clear hK K
      iterate 1 (refine Rc.rK rfl rfl ?_; intro K hK; apply Exists.intro; refine ⟨?_, ?_⟩; (focus (intro x hx;  go_simp; (first | (fail) | ((try go_bits); (try go_simp); (try rfl))))); go_simp; refine hK _ ?_; clear hK K)
      refine Rc.r_str rfl rfl 23 9 _ rfl 5 Tryd.underlying9 Tryd.underlying23 Tryd.underlying5 _ _ (Rn) rfl (fun x hx => Rp3.row (Rp.row_le (Rc.undrew hx) HRB9.out) HNL.out (by decide)) ?_; intro K hK; go_simp; refine hK _ ?_; clear hK K
      refine Rc.fK rfl rfl rfl rfl ?_ ?_
      · intro x Fs hx hle hg K hK
        have hbx : Below w.heap.size w x := HB9.out.trans ((Rc.undrew hx).mono HB9.out.size)
        have hck := (by rw [← HE2.out]; exact refcheckC_any ((a : Int) + 1) b Q2 (p 34).q (p 34).c Ra Rn x (by rw [HAL.out]; decide) hb63 HQN.out (HR.out.below hbx) hg.1 : Calls Tryd.prog 38 #[.int .i64 ((a : Int) + 1), .int .i64 b, .slice (p 34).q Q2.length (p 34).c, .string ⟨Ra.toArray⟩, .string ⟨Rn.toArray⟩] x fun e w' => e = .returned (.int .i64 E2) ∧ Below x.heap.size x w')
        have HCC := Lib.hid hck
        clear hck hg
        go_wp2_with fail
        refine HCC.out.mono ?_
        rintro e x' ⟨rfl, hb⟩
        go_wp2_with fail
        exact hK Rc.dflt x' hb (fun _ _ _ _ => trivial)
      intro K hK; go_simp; refine hK _ ?_; clear hK K
      iterate 2 (refine Rc.rK rfl rfl ?_; intro K hK; apply Exists.intro; refine ⟨?_, ?_⟩; (focus (intro x hx;  go_simp; (first | (fail) | ((try go_bits); (try go_simp); (try rfl))))); go_simp; refine hK _ ?_; clear hK K)
      refine Rc.done fun x Fs hx hle hg => ?_
      have HX : Hid (Below w.heap.size w x) := Lib.hid (HB9.out.trans ((Rc.undrew hx).mono HB9.out.size))
      clear hx hle hg cW
      go_wp2_with fail
      refine NoPanic.normal ?_
      go_wp2_with fail
      go_ret
      exact ⟨rfl, HX.out⟩
    · have hm1 : (IntKind.u64.wrap at').tmod 3 = 1 := hmv
      clear hmv
      have HLQ : Hid (QQ.length ≤ 1000) := Lib.hid (by omega)
      by_cases hP0 : PP.length = 0
      ·
        have hpI : ¬ (0 : Int) < (PP.length : Int) := by omega
        have hpN : ¬ 0 < PP.length := by omega
        clear hP0
        by_cases hQ0 : QQ.length = 0
        ·
          have hqI : ¬ (0 : Int) < (QQ.length : Int) := by omega
          have hqN : ¬ 0 < QQ.length := by omega
          clear hQ0
          go_wp2_with fail
          obtain ⟨wF, hwF⟩ : ∃ wF, wF = w8 := ⟨_, rfl⟩
          have HB9 : Hid (Below w.heap.size w wF) := Lib.hid (by rw [hwF]; exact HB8.out)
          have HO9 : Hid (Rd wF 1 (.slice qw b cw) b (strs N)) := Lib.hid (by rw [hwF]; exact HO8.out)
          have HRB9 : Hid (wF.heap[rb]? = some (.cells (bysA Rn) 22 (0, 0))) := Lib.hid (by rw [hwF]; exact HRN8.out)
          have HOB9 : Hid (wF.heap[ob]? = some (.cells (bysA Ra) 22 (0, 0))) := Lib.hid (by rw [hwF]; exact HRB8.out)
          rw [← hwF]
          obtain ⟨P2, hP2⟩ : ∃ P2, P2 = PP := ⟨_, rfl⟩
          obtain ⟨p2, hp2⟩ : ∃ p2 : Option Addr, p2 = pq := ⟨_, rfl⟩
          obtain ⟨pc2, hpc2⟩ : ∃ pc2, pc2 = pc := ⟨_, rfl⟩
          have HP9 : Hid (RdL wF (.slice p2 P2.length pc2) P2) := Lib.hid (by rw [hP2, hp2, hpc2]; exact by rw [hwF]; exact HP8.out.rd)
          have hP2l : P2.length ≤ 1000 := by rw [hP2]; (try (have h9 := HL2P.out; rw [h9])); omega
          rw [← hP2, ← hp2, ← hpc2]
          clear hP2 hp2 hpc2
          obtain ⟨Q2, hQ2e⟩ : ∃ Q2, Q2 = QQ := ⟨_, rfl⟩
          obtain ⟨q2, hq2⟩ : ∃ q2 : Option Addr, q2 = qq := ⟨_, rfl⟩
          obtain ⟨qc2, hqc2⟩ : ∃ qc2, qc2 = qc := ⟨_, rfl⟩
          have HQ9 : Hid (RdL wF (.slice q2 Q2.length qc2) Q2) := Lib.hid (by rw [hQ2e, hq2, hqc2]; exact by rw [hwF]; exact HQ8.out.rd)
          have hQ2 : Q2.length ≤ 1000 := by rw [hQ2e]; omega
          rw [← hQ2e, ← hq2, ← hqc2]
          clear hQ2e hq2 hqc2
          have HE1 : Hid (refchkI X a b P2 Rn = chkI X a b P2 Rn) := Lib.hid (chkI_same _ _ _ _ _)
          have HE2 : Hid (refchkC ((a : Int) + 1) b Q2 Ra Rn = chkC ((a : Int) + 1) b Q2 Ra Rn) := Lib.hid (chkC_same _ _ _ _ _)
          have HPN : Hid (∀ x ∈ P2, x.length ≤ 1000) := Lib.hid (fun x hx => by rw [HP9.out.1 x hx]; decide)
          have HQN : Hid (∀ x ∈ Q2, x.length ≤ 1000) := Lib.hid (fun x hx => by rw [HQ9.out.1 x hx]; decide)
          obtain ⟨E1, hE1⟩ : ∃ E1, E1 = chkI X a b P2 Rn := ⟨_, rfl⟩
          obtain ⟨E2, hE2⟩ : ∃ E2, E2 = chkC ((a : Int) + 1) b Q2 Ra Rn := ⟨_, rfl⟩
          rw [← hE1] at HE1
          rw [← hE2] at HE2
          have HF1 := Lib.hid hE1
          have HF2 := Lib.hid hE2
          obtain ⟨bw, ow, hqw, hbw, _, _, hcw2⟩ := Rd_lt HO9.out hb0
          subst hqw
          have cW : (wF).cell? ⟨bw, ow + a, none⟩ = some (.string ⟨X.toArray⟩) := by rw [HXX.out]; exact hcw2 a _ (strs_get (by have := HBN.out; omega))
          clear hE1 hE2 hcw2


          refine Rc.region ((wF).heap.size) 42 [Rc.F 4 (fun p => .slice p.q X.length p.c) (fun p _ y => Rd y 1 (.slice p.q X.length p.c) X.length (bys X)), Rc.G 9 [4] (fun _ => .int .i64 E1) (fun _ _ _ => True), Rc.F 17 (fun p => .slice p.q P2.length p.c) (fun p _ y => Rd y 1 (.slice p.q P2.length p.c) P2.length (strs P2)), Rc.G 20 [17] (fun _ => .int .i64 E1) (fun _ _ _ => True), Rc.F 29 (fun _ => .int .i64 E2) (fun _ _ _ => True), Rc.F 34 (fun p => .slice p.q Q2.length p.c) (fun p _ y => Rd y 1 (.slice p.q Q2.length p.c) Q2.length (strs Q2)), Rc.G 39 [34] (fun _ => .int .i64 E2) (fun _ _ _ => True)] [] (by kernel_rfl) (Nat.le_refl _) (by kernel_rfl) ?_; intro p; simp only [List.take, List.drop]
          iterate 3 (refine Rc.rK rfl rfl ?_; intro K hK; apply Exists.intro; refine ⟨?_, ?_⟩; (focus (intro x hx;  go_simp; (first | (fail) | ((try go_bits); (try go_simp); (try rfl))))); go_simp; refine hK _ ?_; clear hK K)
          iterate 1 (refine Rc.rK rfl rfl ?_; intro K hK; apply Exists.intro; refine ⟨?_, ?_⟩; (focus (intro x hx; have d0 := Rc.cell_le hx hbw cW; go_simp; (first | (fail) | ((try go_bits); (try go_simp); (try rfl))))); go_simp; refine hK _ ?_; clear hK K)
          refine Rc.fK rfl rfl rfl rfl ?_ ?_
          · intro x Fs hx hle hg K hK
            refine conv_bytes rfl 9 23 _ rfl 5 Tryd.underlying9 Tryd.underlying23 Tryd.underlying5 ⟨X.toArray⟩ rfl x.heap.size (Nat.le_refl _) (by show X.length ≤ maxLen; have := HXL.out; unfold maxLen; omega) ?_
            intro v x' how hb
            have how : Ow x' x.heap.size 5 1 v X.length (bys X) := how
            obtain ⟨q', c', rfl⟩ := Ow_form how
            go_wp2_with fail
            exact hK ⟨q', c', undef⟩ x' hb (fun F y hF hy => (Rd.of_ow how).keeps hy (fun k hk => .inr (hF k (how.lt k hk).1 (how.lt k hk).2)))
          intro K hK; go_simp; refine hK _ ?_; clear hK K
          iterate 3 (refine Rc.rK rfl rfl ?_; intro K hK; apply Exists.intro; refine ⟨?_, ?_⟩; (focus (intro x hx;  go_simp; (first | (fail) | ((try go_bits); (try go_simp); (try rfl))))); go_simp; refine hK _ ?_; clear hK K)
          refine Rc.r_load rfl rfl _ _ rfl (.agg (bysA Rn)) (fun x hx => load_whole (Rp.row_le (Rc.undrew hx) HRB9.out) HNL.out) ?_; intro K hK; go_simp; refine hK _ ?_; clear hK K
          refine Rc.fK rfl rfl rfl rfl ?_ ?_
          · intro x Fs hx hle hg K hK
            have hbx : Below w.heap.size w x := HB9.out.trans ((Rc.undrew hx).mono HB9.out.size)
            have hck := (by rw [HF1.out]; exact checkI_any (p 4).q (p 4).c X a b p2 pc2 P2 Rn x (HS.out.below hbx) hg.1 (by have := HXL.out; omega) (HP9.out.below (Rc.undrew hx)) HNL.out hb63 : Calls Tryd.prog 35 #[.slice (p 4).q X.length (p 4).c, .int .i64 a, .int .i64 b, .slice p2 P2.length pc2, .agg (bysA Rn)] x fun e w' => e = .returned (.int .i64 E1) ∧ Below x.heap.size x w')
            have HCC := Lib.hid hck
            clear hck hg
            go_wp2_with fail
            refine HCC.out.mono ?_
            rintro e x' ⟨rfl, hb⟩
            go_wp2_with fail
            exact hK Rc.dflt x' hb (fun _ _ _ _ => trivial)
          intro K hK; go_simp; refine hK _ ?_; clear hK K
          iterate 3 (refine Rc.rK rfl rfl ?_; intro K hK; apply Exists.intro; refine ⟨?_, ?_⟩; (focus (intro x hx;  go_simp; (first | (fail) | ((try go_bits); (try go_simp); (try rfl))))); go_simp; refine hK _ ?_; clear hK K)
          iterate 1 (refine Rc.rK rfl rfl ?_; intro K hK; apply Exists.intro; refine ⟨?_, ?_⟩; (focus (intro x hx; have d0 := Rc.cell_le hx hbw cW; go_simp; (first | (fail) | ((try go_bits); (try go_simp); (try rfl))))); go_simp; refine hK _ ?_; clear hK K)
          iterate 3 (refine Rc.rK rfl rfl ?_; intro K hK; apply Exists.intro; refine ⟨?_, ?_⟩; (focus (intro x hx;  go_simp; (first | (fail) | ((try go_bits); (try go_simp); (try rfl))))); go_simp; refine hK _ ?_; clear hK K)
          refine Rc.fK rfl rfl rfl rfl ?_ ?_
          · intro x Fs hx hle hg K hK
            have ht := texts16_any p2 pc2 P2 x (HP9.out.below (Rc.undrew hx)) (by omega)
            have HTX := Lib.hid ht
            clear ht
            go_wp2_with fail
            refine HTX.out.mono ?_
            rintro e x' ⟨v, rfl, how, hb⟩
            obtain ⟨q', c', rfl⟩ := Ow_form how
            go_wp2_with fail
            exact hK ⟨q', c', undef⟩ x' hb (fun F y hF hy => (Rd.of_ow how).keeps hy (fun k hk => .inr (hF k (how.lt k hk).1 (how.lt k hk).2)))
          intro K hK; go_simp; refine hK _ ?_; clear hK K
          iterate 1 (refine Rc.rK rfl rfl ?_; intro K hK; apply Exists.intro; refine ⟨?_, ?_⟩; (focus (intro x hx;  go_simp; (first | (fail) | ((try go_bits); (try go_simp); (try rfl))))); go_simp; refine hK _ ?_; clear hK K)
          refine Rc.r_str rfl rfl 23 9 _ rfl 5 Tryd.underlying9 Tryd.underlying23 Tryd.underlying5 _ _ (Rn) rfl (fun x hx => Rp3.row (Rp.row_le (Rc.undrew hx) HRB9.out) HNL.out (by decide)) ?_; intro K hK; go_simp; refine hK _ ?_; clear hK K
          refine Rc.fK rfl rfl rfl rfl ?_ ?_
          · intro x Fs hx hle hg K hK
            have hbx : Below w.heap.size w x := HB9.out.trans ((Rc.undrew hx).mono HB9.out.size)
            have hck := (by rw [← HE1.out]; exact refcheckI_any X a b P2 (p 17).q (p 17).c Rn x HXL.out hb63 HPN.out (HR.out.below hbx) hg.1 : Calls Tryd.prog 37 #[.string ⟨X.toArray⟩, .int .i64 a, .int .i64 b, .slice (p 17).q P2.length (p 17).c, .string ⟨Rn.toArray⟩] x fun e w' => e = .returned (.int .i64 E1) ∧ Below x.heap.size x w')
            have HCC := Lib.hid hck
            clear hck hg
            go_wp2_with fail
            refine HCC.out.mono ?_
            rintro e x' ⟨rfl, hb⟩
            go_wp2_with fail
            exact hK Rc.dflt x' hb (fun _ _ _ _ => trivial)
          intro K hK; go_simp; refine hK _ ?_; clear hK K
          iterate 6 (refine Rc.rK rfl rfl ?_; intro K hK; apply Exists.intro; refine ⟨?_, ?_⟩; (focus (intro x hx;  go_simp; (first | (fail) | ((try go_bits); (try go_simp); (try rfl))))); go_simp; refine hK _ ?_; clear hK K)
          refine Rc.r_load rfl rfl _ _ rfl (.agg (bysA Ra)) (fun x hx => load_whole (Rp.row_le (Rc.undrew hx) HOB9.out) HAL.out) ?_; intro K hK; go_simp; refine hK _ ?_; clear hK K
          refine Rc.r_load rfl rfl _ _ rfl (.agg (bysA Rn)) (fun x hx => load_whole (Rp.row_le (Rc.undrew hx) HRB9.out) HNL.out) ?_; intro K hK; go_simp; refine hK _ ?_; clear hK K
          refine Rc.fK rfl rfl rfl rfl ?_ ?_
          · intro x Fs hx hle hg K hK
            have hbx : Below w.heap.size w x := HB9.out.trans ((Rc.undrew hx).mono HB9.out.size)
            have hck := (by rw [HF2.out]; exact checkC_any ((a : Int) + 1) b q2 qc2 Q2 Ra Rn x (HS.out.below hbx) (HQ9.out.below (Rc.undrew hx)) hQ2 HAL.out HNL.out hb63 : Calls Tryd.prog 36 #[.int .i64 ((a : Int) + 1), .int .i64 b, .slice q2 Q2.length qc2, .agg (bysA Ra), .agg (bysA Rn)] x fun e w' => e = .returned (.int .i64 E2) ∧ Below x.heap.size x w')
            have HCC := Lib.hid hck
            clear hck hg
            go_wp2_with fail
            refine HCC.out.mono ?_
            rintro e x' ⟨rfl, hb⟩
            go_wp2_with fail
            exact hK Rc.dflt x' hb (fun _ _ _ _ => trivial)
          intro K hK; go_simp; refine hK _ ?_; clear hK K
          iterate 4 (refine Rc.rK rfl rfl ?_; intro K hK; apply Exists.intro; refine ⟨?_, ?_⟩; (focus (intro x hx;  go_simp; (first | (fail) | ((try go_bits); (try go_simp); (try rfl))))); go_simp; refine hK _ ?_; clear hK K)
          refine Rc.fK rfl rfl rfl rfl ?_ ?_
          · intro x Fs hx hle hg K hK
            have ht := texts16_any q2 qc2 Q2 x (HQ9.out.below (Rc.undrew hx)) (by omega)
            have HTX := Lib.hid ht
            clear ht
            go_wp2_with fail
            refine HTX.out.mono ?_
            rintro e x' ⟨v, rfl, how, hb⟩
            obtain ⟨q', c', rfl⟩ := Ow_form how
            go_wp2_with fail
            exact hK ⟨q', c', undef⟩ x' hb (fun F y hF hy => (Rd.of_ow how).keeps hy (fun k hk => .inr (hF k (how.lt k hk).1 (how.lt k hk).2)))
          intro K hK; go_simp; refine hK _ ?_; clear hK K
          iterate 1 (refine Rc.rK rfl rfl ?_; intro K hK; apply Exists.intro; refine ⟨?_, ?_⟩; (focus (intro x hx;  go_simp; (first | (fail) | ((try go_bits); (try go_simp); (try rfl))))); go_simp; refine hK _ ?_; clear hK K)
          refine Rc.r_str rfl rfl 23 9 _ rfl 5 Tryd.underlying9 Tryd.underlying23 Tryd.underlying5 _ _ (Ra) rfl (fun x hx => Rp3.row (Rp.row_le (Rc.undrew hx) HOB9.out) HAL.out (by decide)) ?_; intro K hK; go_simp; refine hK _ ?_; clear hK K
          iterate 1 (refine Rc.rK rfl rfl ?_; intro K hK; apply Exists.intro; refine ⟨?_, ?_⟩; (focus (intro x hx;  go_simp; (first | (fail) | ((try go_bits); (try go_simp); (try rfl))))); go_simp; refine hK _ ?_; clear hK K)
          refine Rc.r_str rfl rfl 23 9 _ rfl 5 Tryd.underlying9 Tryd.underlying23 Tryd.underlying5 _ _ (Rn) rfl (fun x hx => Rp3.row (Rp.row_le (Rc.undrew hx) HRB9.out) HNL.out (by decide)) ?_; intro K hK; go_simp; refine hK _ ?_; clear hK K
          refine Rc.fK rfl rfl rfl rfl ?_ ?_
          · intro x Fs hx hle hg K hK
            have hbx : Below w.heap.size w x := HB9.out.trans ((Rc.undrew hx).mono HB9.out.size)
            have hck := (by rw [← HE2.out]; exact refcheckC_any ((a : Int) + 1) b Q2 (p 34).q (p 34).c Ra Rn x (by rw [HAL.out]; decide) hb63 HQN.out (HR.out.below hbx) hg.1 : Calls Tryd.prog 38 #[.int .i64 ((a : Int) + 1), .int .i64 b, .slice (p 34).q Q2.length (p 34).c, .string ⟨Ra.toArray⟩, .string ⟨Rn.toArray⟩] x fun e w' => e = .returned (.int .i64 E2) ∧ Below x.heap.size x w')
            have HCC := Lib.hid hck
            clear hck hg
            go_wp2_with fail
            refine HCC.out.mono ?_
            rintro e x' ⟨rfl, hb⟩
            go_wp2_with fail
            exact hK Rc.dflt x' hb (fun _ _ _ _ => trivial)
          intro K hK; go_simp; refine hK _ ?_; clear hK K
          iterate 2 (refine Rc.rK rfl rfl ?_; intro K hK; apply Exists.intro; refine ⟨?_, ?_⟩; (focus (intro x hx;  go_simp; (first | (fail) | ((try go_bits); (try go_simp); (try rfl))))); go_simp; refine hK _ ?_; clear hK K)
          refine Rc.done fun x Fs hx hle hg => ?_
          have HX : Hid (Below w.heap.size w x) := Lib.hid (HB9.out.trans ((Rc.undrew hx).mono HB9.out.size))
          clear hx hle hg cW
          go_wp2_with fail
          refine NoPanic.normal ?_
          go_wp2_with fail
          go_ret
          exact ⟨rfl, HX.out⟩
        ·
          obtain ⟨t, ht⟩ : ∃ t, QQ.length = t + 1 := ⟨QQ.length - 1, by omega⟩
          have hqI : (0 : Int) < (QQ.length : Int) := by omega
          have hqN : 0 < QQ.length := by omega
          have hqs : (QQ.length : Int) - 1 = (t : Int) := by omega
          have hqc := (Rd_cap (Rd.of_ow HQ8.out.2)).1
          have htqc : t ≤ qc := by omega
          have htqcI : (t : Int) ≤ (qc : Int) := by omega
          have ht20 : t ≤ 20 := by omega
          obtain ⟨U, hU⟩ : ∃ U, U = QQ.take t := ⟨_, rfl⟩
          have hUl : U.length = t := by rw [hU, List.length_take]; omega
          have HQU : Hid (RdL w8 (.slice qq t qc) U) := Lib.hid (by rw [hU]; exact HQ8.out.rd.cut' (by omega))
          have HUL := Lib.hid hUl
          clear ht hU hqc hQ0 hUl
          go_wp2_with fail
          obtain ⟨wF, hwF⟩ : ∃ wF, wF = w8 := ⟨_, rfl⟩
          have HB9 : Hid (Below w.heap.size w wF) := Lib.hid (by rw [hwF]; exact HB8.out)
          have HO9 : Hid (Rd wF 1 (.slice qw b cw) b (strs N)) := Lib.hid (by rw [hwF]; exact HO8.out)
          have HRB9 : Hid (wF.heap[rb]? = some (.cells (bysA Rn) 22 (0, 0))) := Lib.hid (by rw [hwF]; exact HRN8.out)
          have HOB9 : Hid (wF.heap[ob]? = some (.cells (bysA Ra) 22 (0, 0))) := Lib.hid (by rw [hwF]; exact HRB8.out)
          rw [← hwF]
          obtain ⟨P2, hP2⟩ : ∃ P2, P2 = PP := ⟨_, rfl⟩
          obtain ⟨p2, hp2⟩ : ∃ p2 : Option Addr, p2 = pq := ⟨_, rfl⟩
          obtain ⟨pc2, hpc2⟩ : ∃ pc2, pc2 = pc := ⟨_, rfl⟩
          have HP9 : Hid (RdL wF (.slice p2 P2.length pc2) P2) := Lib.hid (by rw [hP2, hp2, hpc2]; exact by rw [hwF]; exact HP8.out.rd)
          have hP2l : P2.length ≤ 1000 := by rw [hP2]; (try (have h9 := HL2P.out; rw [h9])); omega
          rw [← hP2, ← hp2, ← hpc2]
          clear hP2 hp2 hpc2
          rw [← HUL.out]
          obtain ⟨Q2, hQ2e⟩ : ∃ Q2, Q2 = U := ⟨_, rfl⟩
          obtain ⟨q2, hq2⟩ : ∃ q2 : Option Addr, q2 = qq := ⟨_, rfl⟩
          obtain ⟨qc2, hqc2⟩ : ∃ qc2, qc2 = qc := ⟨_, rfl⟩
          have HQ9 : Hid (RdL wF (.slice q2 Q2.length qc2) Q2) := Lib.hid (by rw [hQ2e, hq2, hqc2]; exact by rw [hwF, HUL.out]; exact HQU.out)
          have hQ2 : Q2.length ≤ 1000 := by rw [hQ2e]; have := HUL.out; omega
          rw [← hQ2e, ← hq2, ← hqc2]
          clear hQ2e hq2 hqc2
          have HE1 : Hid (refchkI X a b P2 Rn = chkI X a b P2 Rn) := Lib.hid (chkI_same _ _ _ _ _)
          have HE2 : Hid (refchkC ((a : Int) + 1) b Q2 Ra Rn = chkC ((a : Int) + 1) b Q2 Ra Rn) := Lib.hid (chkC_same _ _ _ _ _)
          have HPN : Hid (∀ x ∈ P2, x.length ≤ 1000) := Lib.hid (fun x hx => by rw [HP9.out.1 x hx]; decide)
          have HQN : Hid (∀ x ∈ Q2, x.length ≤ 1000) := Lib.hid (fun x hx => by rw [HQ9.out.1 x hx]; decide)
          obtain ⟨E1, hE1⟩ : ∃ E1, E1 = chkI X a b P2 Rn := ⟨_, rfl⟩
          obtain ⟨E2, hE2⟩ : ∃ E2, E2 = chkC ((a : Int) + 1) b Q2 Ra Rn := ⟨_, rfl⟩
          rw [← hE1] at HE1
          rw [← hE2] at HE2
          have HF1 := Lib.hid hE1
          have HF2 := Lib.hid hE2
          obtain ⟨bw, ow, hqw, hbw, _, _, hcw2⟩ := Rd_lt HO9.out hb0
          subst hqw
          have cW : (wF).cell? ⟨bw, ow + a, none⟩ = some (.string ⟨X.toArray⟩) := by rw [HXX.out]; exact hcw2 a _ (strs_get (by have := HBN.out; omega))
          clear hE1 hE2 hcw2


          refine Rc.region ((wF).heap.size) 42 [Rc.F 4 (fun p => .slice p.q X.length p.c) (fun p _ y => Rd y 1 (.slice p.q X.length p.c) X.length (bys X)), Rc.G 9 [4] (fun _ => .int .i64 E1) (fun _ _ _ => True), Rc.F 17 (fun p => .slice p.q P2.length p.c) (fun p _ y => Rd y 1 (.slice p.q P2.length p.c) P2.length (strs P2)), Rc.G 20 [17] (fun _ => .int .i64 E1) (fun _ _ _ => True), Rc.F 29 (fun _ => .int .i64 E2) (fun _ _ _ => True), Rc.F 34 (fun p => .slice p.q Q2.length p.c) (fun p _ y => Rd y 1 (.slice p.q Q2.length p.c) Q2.length (strs Q2)), Rc.G 39 [34] (fun _ => .int .i64 E2) (fun _ _ _ => True)] [] (by kernel_rfl) (Nat.le_refl _) (by kernel_rfl) ?_; intro p; simp only [List.take, List.drop]
          iterate 3 (refine Rc.rK rfl rfl ?_; intro K hK; apply Exists.intro; refine ⟨?_, ?_⟩; (focus (intro x hx;  go_simp; (first | (fail) | ((try go_bits); (try go_simp); (try rfl))))); go_simp; refine hK _ ?_; clear hK K)
          iterate 1 (refine Rc.rK rfl rfl ?_; intro K hK; apply Exists.intro; refine ⟨?_, ?_⟩; (focus (intro x hx; have d0 := Rc.cell_le hx hbw cW; go_simp; (first | (fail) | ((try go_bits); (try go_simp); (try rfl))))); go_simp; refine hK _ ?_; clear hK K)
          refine Rc.fK rfl rfl rfl rfl ?_ ?_
          · intro x Fs hx hle hg K hK
            refine conv_bytes rfl 9 23 _ rfl 5 Tryd.underlying9 Tryd.underlying23 Tryd.underlying5 ⟨X.toArray⟩ rfl x.heap.size (Nat.le_refl _) (by show X.length ≤ maxLen; have := HXL.out; unfold maxLen; omega) ?_
            intro v x' how hb
            have how : Ow x' x.heap.size 5 1 v X.length (bys X) := how
            obtain ⟨q', c', rfl⟩ := Ow_form how
            go_wp2_with fail
            exact hK ⟨q', c', undef⟩ x' hb (fun F y hF hy => (Rd.of_ow how).keeps hy (fun k hk => .inr (hF k (how.lt k hk).1 (how.lt k hk).2)))
          intro K hK; go_simp; refine hK _ ?_; clear hK K
          iterate 3 (refine Rc.rK rfl rfl ?_; intro K hK; apply Exists.intro; refine ⟨?_, ?_⟩; (focus (intro x hx;  go_simp; (first | (fail) | ((try go_bits); (try go_simp); (try rfl))))); go_simp; refine hK _ ?_; clear hK K)
          refine Rc.r_load rfl rfl _ _ rfl (.agg (bysA Rn)) (fun x hx => load_whole (Rp.row_le (Rc.undrew hx) HRB9.out) HNL.out) ?_; intro K hK; go_simp; refine hK _ ?_; clear hK K
          refine Rc.fK rfl rfl rfl rfl ?_ ?_
          · intro x Fs hx hle hg K hK
            have hbx : Below w.heap.size w x := HB9.out.trans ((Rc.undrew hx).mono HB9.out.size)
            have hck := (by rw [HF1.out]; exact checkI_any (p 4).q (p 4).c X a b p2 pc2 P2 Rn x (HS.out.below hbx) hg.1 (by have := HXL.out; omega) (HP9.out.below (Rc.undrew hx)) HNL.out hb63 : Calls Tryd.prog 35 #[.slice (p 4).q X.length (p 4).c, .int .i64 a, .int .i64 b, .slice p2 P2.length pc2, .agg (bysA Rn)] x fun e w' => e = .returned (.int .i64 E1) ∧ Below x.heap.size x w')
            have HCC := Lib.hid hck
            clear hck hg
            go_wp2_with fail
            refine HCC.out.mono ?_
            rintro e x' ⟨rfl, hb⟩
            go_wp2_with fail
            exact hK Rc.dflt x' hb (fun _ _ _ _ => trivial)
          intro K hK; go_simp; refine hK _ ?_; clear hK K
          iterate 3 (refine Rc.rK rfl rfl ?_; intro K hK; apply Exists.intro; refine ⟨?_, ?_⟩; (focus (intro x hx;  go_simp; (first | (fail) | ((try go_bits); (try go_simp); (try rfl))))); go_simp; refine hK _ ?_; clear hK K)
          iterate 1 (refine Rc.rK rfl rfl ?_; intro K hK; apply Exists.intro; refine ⟨?_, ?_⟩; (focus (intro x hx; have d0 := Rc.cell_le hx hbw cW; go_simp; (first | (fail) | ((try go_bits); (try go_simp); (try rfl))))); go_simp; refine hK _ ?_; clear hK K)
          iterate 3 (refine Rc.rK rfl rfl ?_; intro K hK; apply Exists.intro; refine ⟨?_, ?_⟩; (focus (intro x hx;  go_simp; (first | (fail) | ((try go_bits); (try go_simp); (try rfl))))); go_simp; refine hK _ ?_; clear hK K)
          refine Rc.fK rfl rfl rfl rfl ?_ ?_
          · intro x Fs hx hle hg K hK
            have ht := texts16_any p2 pc2 P2 x (HP9.out.below (Rc.undrew hx)) (by omega)
            have HTX := Lib.hid ht
            clear ht
            go_wp2_with fail
            refine HTX.out.mono ?_
            rintro e x' ⟨v, rfl, how, hb⟩
            obtain ⟨q', c', rfl⟩ := Ow_form how
            go_wp2_with fail
            exact hK ⟨q', c', undef⟩ x' hb (fun F y hF hy => (Rd.of_ow how).keeps hy (fun k hk => .inr (hF k (how.lt k hk).1 (how.lt k hk).2)))
          intro K hK; go_simp; refine hK _ ?_; clear hK K
          iterate 1 (refine Rc.rK rfl rfl ?_; intro K hK; apply Exists.intro; refine ⟨?_, ?_⟩; (focus (intro x hx;  go_simp; (first | (fail) | ((try go_bits); (try go_simp); (try rfl))))); go_simp; refine hK _ ?_; clear hK K)
          refine Rc.r_str rfl rfl 23 9 _ rfl 5 Tryd.underlying9 Tryd.underlying23 Tryd.underlying5 _ _ (Rn) rfl (fun x hx => Rp3.row (Rp.row_le (Rc.undrew hx) HRB9.out) HNL.out (by decide)) ?_; intro K hK; go_simp; refine hK _ ?_; clear hK K
          refine Rc.fK rfl rfl rfl rfl ?_ ?_
          · intro x Fs hx hle hg K hK
            have hbx : Below w.heap.size w x := HB9.out.trans ((Rc.undrew hx).mono HB9.out.size)
            have hck := (by rw [← HE1.out]; exact refcheckI_any X a b P2 (p 17).q (p 17).c Rn x HXL.out hb63 HPN.out (HR.out.below hbx) hg.1 : Calls Tryd.prog 37 #[.string ⟨X.toArray⟩, .int .i64 a, .int .i64 b, .slice (p 17).q P2.length (p 17).c, .string ⟨Rn.toArray⟩] x fun e w' => e = .returned (.int .i64 E1) ∧ Below x.heap.size x w')
            have HCC := Lib.hid hck
            clear hck hg
            go_wp2_with fail
            refine HCC.out.mono ?_
            rintro e x' ⟨rfl, hb⟩
            go_wp2_with fail
            exact hK Rc.dflt x' hb (fun _ _ _ _ => trivial)
          intro K hK; go_simp; refine hK _ ?_; clear hK K
          iterate 6 (refine Rc.rK rfl rfl ?_; intro K hK; apply Exists.intro; refine ⟨?_, ?_⟩; (focus (intro x hx;  go_simp; (first | (fail) | ((try go_bits); (try go_simp); (try rfl))))); go_simp; refine hK _ ?_; clear hK K)
          refine Rc.r_load rfl rfl _ _ rfl (.agg (bysA Ra)) (fun x hx => load_whole (Rp.row_le (Rc.undrew hx) HOB9.out) HAL.out) ?_; intro K hK; go_simp; refine hK _ ?_; clear hK K
          refine Rc.r_load rfl rfl _ _ rfl (.agg (bysA Rn)) (fun x hx => load_whole (Rp.row_le (Rc.undrew hx) HRB9.out) HNL.out) ?_; intro K hK; go_simp; refine hK _ ?_; clear hK K
          refine Rc.fK rfl rfl rfl rfl ?_ ?_
          · intro x Fs hx hle hg K hK
            have hbx : Below w.heap.size w x := HB9.out.trans ((Rc.undrew hx).mono HB9.out.size)
            have hck := (by rw [HF2.out]; exact checkC_any ((a : Int) + 1) b q2 qc2 Q2 Ra Rn x (HS.out.below hbx) (HQ9.out.below (Rc.undrew hx)) hQ2 HAL.out HNL.out hb63 : Calls Tryd.prog 36 #[.int .i64 ((a : Int) + 1), .int .i64 b, .slice q2 Q2.length qc2, .agg (bysA Ra), .agg (bysA Rn)] x fun e w' => e = .returned (.int .i64 E2) ∧ Below x.heap.size x w')
            have HCC := Lib.hid hck
            clear hck hg
            go_wp2_with fail
            refine HCC.out.mono ?_
            rintro e x' ⟨rfl, hb⟩
            go_wp2_with fail
            exact hK Rc.dflt x' hb (fun _ _ _ _ => trivial)
          intro K hK; go_simp; refine hK _ ?_; clear hK K
          iterate 4 (refine Rc.rK rfl rfl ?_; intro K hK; apply Exists.intro; refine ⟨?_, ?_⟩; (focus (intro x hx;  go_simp; (first | (fail) | ((try go_bits); (try go_simp); (try rfl))))); go_simp; refine hK _ ?_; clear hK K)
          refine Rc.fK rfl rfl rfl rfl ?_ ?_
          · intro x Fs hx hle hg K hK
            have ht := texts16_any q2 qc2 Q2 x (HQ9.out.below (Rc.undrew hx)) (by omega)
            have HTX := Lib.hid ht
            clear ht
            go_wp2_with fail
            refine HTX.out.mono ?_
            rintro e x' ⟨v, rfl, how, hb⟩
            obtain ⟨q', c', rfl⟩ := Ow_form how
            go_wp2_with fail
            exact hK ⟨q', c', undef⟩ x' hb (fun F y hF hy => (Rd.of_ow how).keeps hy (fun k hk => .inr (hF k (how.lt k hk).1 (how.lt k hk).2)))
          intro K hK; go_simp; refine hK _ ?_; clear hK K
          iterate 1 (refine Rc.rK rfl rfl ?_; intro K hK; apply Exists.intro; refine ⟨?_, ?_⟩; (focus (intro x hx;  go_simp; (first | (fail) | ((try go_bits); (try go_simp); (try rfl))))); go_simp; refine hK _ ?_; clear hK K)
          refine Rc.r_str rfl rfl 23 9 _ rfl 5 Tryd.underlying9 Tryd.underlying23 Tryd.underlying5 _ _ (Ra) rfl (fun x hx => Rp3.row (Rp.row_le (Rc.undrew hx) HOB9.out) HAL.out (by decide)) ?_; intro K hK; go_simp; refine hK _ ?_; clear hK K
          iterate 1 (refine Rc.rK rfl rfl ?_; intro K hK; apply Exists.intro; refine ⟨?_, ?_⟩; (focus (intro x hx;  go_simp; (first | (fail) | ((try go_bits); (try go_simp); (try rfl))))); go_simp; refine hK _ ?_; clear hK K)
          refine Rc.r_str rfl rfl 23 9 _ rfl 5 Tryd.underlying9 Tryd.underlying23 Tryd.underlying5 _ _ (Rn) rfl (fun x hx => Rp3.row (Rp.row_le (Rc.undrew hx) HRB9.out) HNL.out (by decide)) ?_; intro K hK; go_simp; refine hK _ ?_; clear hK K
          refine Rc.fK rfl rfl rfl rfl ?_ ?_
          · intro x Fs hx hle hg K hK
            have hbx : Below w.heap.size w x := HB9.out.trans ((Rc.undrew hx).mono HB9.out.size)
            have hck := (by rw [← HE2.out]; exact refcheckC_any ((a : Int) + 1) b Q2 (p 34).q (p 34).c Ra Rn x (by rw [HAL.out]; decide) hb63 HQN.out (HR.out.below hbx) hg.1 : Calls Tryd.prog 38 #[.int .i64 ((a : Int) + 1), .int .i64 b, .slice (p 34).q Q2.length (p 34).c, .string ⟨Ra.toArray⟩, .string ⟨Rn.toArray⟩] x fun e w' => e = .returned (.int .i64 E2) ∧ Below x.heap.size x w')
            have HCC := Lib.hid hck
            clear hck hg
            go_wp2_with fail
            refine HCC.out.mono ?_
            rintro e x' ⟨rfl, hb⟩
            go_wp2_with fail
            exact hK Rc.dflt x' hb (fun _ _ _ _ => trivial)
          intro K hK; go_simp; refine hK _ ?_; clear hK K
          iterate 2 (refine Rc.rK rfl rfl ?_; intro K hK; apply Exists.intro; refine ⟨?_, ?_⟩; (focus (intro x hx;  go_simp; (first | (fail) | ((try go_bits); (try go_simp); (try rfl))))); go_simp; refine hK _ ?_; clear hK K)
          refine Rc.done fun x Fs hx hle hg => ?_
          have HX : Hid (Below w.heap.size w x) := Lib.hid (HB9.out.trans ((Rc.undrew hx).mono HB9.out.size))
          clear hx hle hg cW
          go_wp2_with fail
          refine NoPanic.normal ?_
          go_wp2_with fail
          go_ret
          exact ⟨rfl, HX.out⟩
      ·
        have hpI : (0 : Int) < (PP.length : Int) := by omega
        have hpN : 0 < PP.length := by omega
        have hp1 : 1 ≤ PP.length := by omega
        obtain ⟨gp, hgp⟩ : ∃ g, pq = some ⟨g, 0, none⟩ := by
          rcases HP8.out.2.2 with ⟨_, h0⟩ | ⟨g, cap, cur, fz, hv, _⟩
          · omega
          · injection hv with h1; exact ⟨g, h1⟩
        subst hgp
        clear hP0
        obtain ⟨i0, hi0, hz0, hz1, hz2⟩ := parts3 infoA32
        obtain ⟨T, hT⟩ : ∃ T, T = PP.drop 1 := ⟨_, rfl⟩
        have hT1 : PP.length - 1 = T.length := by rw [hT, List.length_drop]
        have hprd := HP8.out.rd
        obtain ⟨bp, op, hqe, hbp, hnc2, hcm2, _⟩ := Rd_lt hprd.2 (by omega)
        obtain ⟨rfl, rfl⟩ : gp = bp ∧ 0 = op := by cases hqe; exact ⟨rfl, rfl⟩
        have hDR := fun (o' : Nat) (h : 1 < PP.length → o' = 0 + 1 * 32) => (show RdL w8 (.slice (some ⟨gp, o', none⟩) T.length (pc - 1)) T from by
          by_cases h1 : 1 < PP.length
          · have := hprd.drop (k := 1) hp1
            rw [hT1, ← hT] at this
            rw [h h1]
            exact this
          · have hTl : T.length = 0 := by omega
            have hTn : T = [] := List.eq_nil_of_length_eq_zero hTl
            rw [hTn]
            exact ⟨(by intro x h; cases h), rfl, .inr ⟨gp, o', pc - 1, rfl, hbp, Nat.zero_le _, by omega, fun j u hu => by cases hu⟩⟩)
        have HDR := Lib.hid hDR
        have hTb : T.length ≤ 1000 := by omega
        clear hDR hT hprd hqe
        by_cases hQ0 : QQ.length = 0
        ·
          have hqI : ¬ (0 : Int) < (QQ.length : Int) := by omega
          have hqN : ¬ 0 < QQ.length := by omega
          clear hQ0
          go_wp2_with (refine l_cutlo2 rfl 61 _ _ rfl 22 i0 Tryd.underlying61 hi0 gp 0 PP.length pc 1 32 T.length hz1 rfl rfl hp1 hnc2 hT1 ?_; go_must (intro o3 ho3))
          have HPT := Lib.hid (HDR.out o3 ho3)
          clear ho3
          obtain ⟨wF, hwF⟩ : ∃ wF, wF = w8 := ⟨_, rfl⟩
          have HB9 : Hid (Below w.heap.size w wF) := Lib.hid (by rw [hwF]; exact HB8.out)
          have HO9 : Hid (Rd wF 1 (.slice qw b cw) b (strs N)) := Lib.hid (by rw [hwF]; exact HO8.out)
          have HRB9 : Hid (wF.heap[rb]? = some (.cells (bysA Rn) 22 (0, 0))) := Lib.hid (by rw [hwF]; exact HRN8.out)
          have HOB9 : Hid (wF.heap[ob]? = some (.cells (bysA Ra) 22 (0, 0))) := Lib.hid (by rw [hwF]; exact HRB8.out)
          rw [← hwF]
          obtain ⟨P2, hP2⟩ : ∃ P2, P2 = T := ⟨_, rfl⟩
          obtain ⟨p2, hp2⟩ : ∃ p2 : Option Addr, p2 = some ⟨gp, o3, none⟩ := ⟨_, rfl⟩
          obtain ⟨pc2, hpc2⟩ : ∃ pc2, pc2 = pc - 1 := ⟨_, rfl⟩
          have HP9 : Hid (RdL wF (.slice p2 P2.length pc2) P2) := Lib.hid (by rw [hP2, hp2, hpc2]; exact by rw [hwF]; exact HPT.out)
          have hP2l : P2.length ≤ 1000 := by rw [hP2]; (try (have h9 := HL2P.out; rw [h9])); omega
          rw [← hP2, ← hp2, ← hpc2]
          clear hP2 hp2 hpc2
          obtain ⟨Q2, hQ2e⟩ : ∃ Q2, Q2 = QQ := ⟨_, rfl⟩
          obtain ⟨q2, hq2⟩ : ∃ q2 : Option Addr, q2 = qq := ⟨_, rfl⟩
          obtain ⟨qc2, hqc2⟩ : ∃ qc2, qc2 = qc := ⟨_, rfl⟩
          have HQ9 : Hid (RdL wF (.slice q2 Q2.length qc2) Q2) := Lib.hid (by rw [hQ2e, hq2, hqc2]; exact by rw [hwF]; exact HQ8.out.rd)
          have hQ2 : Q2.length ≤ 1000 := by rw [hQ2e]; omega
          rw [← hQ2e, ← hq2, ← hqc2]
          clear hQ2e hq2 hqc2
          have HE1 : Hid (refchkI X a b P2 Rn = chkI X a b P2 Rn) := Lib.hid (chkI_same _ _ _ _ _)
          have HE2 : Hid (refchkC ((a : Int) + 1) b Q2 Ra Rn = chkC ((a : Int) + 1) b Q2 Ra Rn) := Lib.hid (chkC_same _ _ _ _ _)
          have HPN : Hid (∀ x ∈ P2, x.length ≤ 1000) := Lib.hid (fun x hx => by rw [HP9.out.1 x hx]; decide)
          have HQN : Hid (∀ x ∈ Q2, x.length ≤ 1000) := Lib.hid (fun x hx => by rw [HQ9.out.1 x hx]; decide)
          obtain ⟨E1, hE1⟩ : ∃ E1, E1 = chkI X a b P2 Rn := ⟨_, rfl⟩
          obtain ⟨E2, hE2⟩ : ∃ E2, E2 = chkC ((a : Int) + 1) b Q2 Ra Rn := ⟨_, rfl⟩
          rw [← hE1] at HE1
          rw [← hE2] at HE2
          have HF1 := Lib.hid hE1
          have HF2 := Lib.hid hE2
          obtain ⟨bw, ow, hqw, hbw, _, _, hcw2⟩ := Rd_lt HO9.out hb0
          subst hqw
          have cW : (wF).cell? ⟨bw, ow + a, none⟩ = some (.string ⟨X.toArray⟩) := by rw [HXX.out]; exact hcw2 a _ (strs_get (by have := HBN.out; omega))
          clear hE1 hE2 hcw2


          refine Rc.region ((wF).heap.size) 42 [Rc.F 4 (fun p => .slice p.q X.length p.c) (fun p _ y => Rd y 1 (.slice p.q X.length p.c) X.length (bys X)), Rc.G 9 [4] (fun _ => .int .i64 E1) (fun _ _ _ => True), Rc.F 17 (fun p => .slice p.q P2.length p.c) (fun p _ y => Rd y 1 (.slice p.q P2.length p.c) P2.length (strs P2)), Rc.G 20 [17] (fun _ => .int .i64 E1) (fun _ _ _ => True), Rc.F 29 (fun _ => .int .i64 E2) (fun _ _ _ => True), Rc.F 34 (fun p => .slice p.q Q2.length p.c) (fun p _ y => Rd y 1 (.slice p.q Q2.length p.c) Q2.length (strs Q2)), Rc.G 39 [34] (fun _ => .int .i64 E2) (fun _ _ _ => True)] [] (by kernel_rfl) (Nat.le_refl _) (by kernel_rfl) ?_; intro p; simp only [List.take, List.drop]
          iterate 3 (refine Rc.rK rfl rfl ?_; intro K hK; apply Exists.intro; refine ⟨?_, ?_⟩; (focus (intro x hx;  go_simp; (first | (fail) | ((try go_bits); (try go_simp); (try rfl))))); go_simp; refine hK _ ?_; clear hK K)
          iterate 1 (refine Rc.rK rfl rfl ?_; intro K hK; apply Exists.intro; refine ⟨?_, ?_⟩; (focus (intro x hx; have d0 := Rc.cell_le hx hbw cW; go_simp; (first | (fail) | ((try go_bits); (try go_simp); (try rfl))))); go_simp; refine hK _ ?_; clear hK K)
          refine Rc.fK rfl rfl rfl rfl ?_ ?_
          · intro x Fs hx hle hg K hK
            refine conv_bytes rfl 9 23 _ rfl 5 Tryd.underlying9 Tryd.underlying23 Tryd.underlying5 ⟨X.toArray⟩ rfl x.heap.size (Nat.le_refl _) (by show X.length ≤ maxLen; have := HXL.out; unfold maxLen; omega) ?_
            intro v x' how hb
            have how : Ow x' x.heap.size 5 1 v X.length (bys X) := how
            obtain ⟨q', c', rfl⟩ := Ow_form how
            go_wp2_with fail
            exact hK ⟨q', c', undef⟩ x' hb (fun F y hF hy => (Rd.of_ow how).keeps hy (fun k hk => .inr (hF k (how.lt k hk).1 (how.lt k hk).2)))
          intro K hK; go_simp; refine hK _ ?_; clear hK K
          iterate 3 (refine Rc.rK rfl rfl ?_; intro K hK; apply Exists.intro; refine ⟨?_, ?_⟩; (focus (intro x hx;  go_simp; (first | (fail) | ((try go_bits); (try go_simp); (try rfl))))); go_simp; refine hK _ ?_; clear hK K)
          refine Rc.r_load rfl rfl _ _ rfl (.agg (bysA Rn)) (fun x hx => load_whole (Rp.row_le (Rc.undrew hx) HRB9.out) HNL.out) ?_; intro K hK; go_simp; refine hK _ ?_; clear hK K
          refine Rc.fK rfl rfl rfl rfl ?_ ?_
          · intro x Fs hx hle hg K hK
            have hbx : Below w.heap.size w x := HB9.out.trans ((Rc.undrew hx).mono HB9.out.size)
            have hck := (by rw [HF1.out]; exact checkI_any (p 4).q (p 4).c X a b p2 pc2 P2 Rn x (HS.out.below hbx) hg.1 (by have := HXL.out; omega) (HP9.out.below (Rc.undrew hx)) HNL.out hb63 : Calls Tryd.prog 35 #[.slice (p 4).q X.length (p 4).c, .int .i64 a, .int .i64 b, .slice p2 P2.length pc2, .agg (bysA Rn)] x fun e w' => e = .returned (.int .i64 E1) ∧ Below x.heap.size x w')
            have HCC := Lib.hid hck
            clear hck hg
            go_wp2_with fail
            refine HCC.out.mono ?_
            rintro e x' ⟨rfl, hb⟩
            go_wp2_with fail
            exact hK Rc.dflt x' hb (fun _ _ _ _ => trivial)
          intro K hK; go_simp; refine hK _ ?_; clear hK K
          iterate 3 (refine Rc.rK rfl rfl ?_; intro K hK; apply Exists.intro; refine ⟨?_, ?_⟩; (focus (intro x hx;  go_simp; (first | (fail) | ((try go_bits); (try go_simp); (try rfl))))); go_simp; refine hK _ ?_; clear hK K)
          iterate 1 (refine Rc.rK rfl rfl ?_; intro K hK; apply Exists.intro; refine ⟨?_, ?_⟩; (focus (intro x hx; have d0 := Rc.cell_le hx hbw cW; go_simp; (first | (fail) | ((try go_bits); (try go_simp); (try rfl))))); go_simp; refine hK _ ?_; clear hK K)
          iterate 3 (refine Rc.rK rfl rfl ?_; intro K hK; apply Exists.intro; refine ⟨?_, ?_⟩; (focus (intro x hx;  go_simp; (first | (fail) | ((try go_bits); (try go_simp); (try rfl))))); go_simp; refine hK _ ?_; clear hK K)
          refine Rc.fK rfl rfl rfl rfl ?_ ?_
          · intro x Fs hx hle hg K hK
            have ht := texts16_any p2 pc2 P2 x (HP9.out.below (Rc.undrew hx)) (by omega)
            have HTX := Lib.hid ht
            clear ht
            go_wp2_with fail
            refine HTX.out.mono ?_
            rintro e x' ⟨v, rfl, how, hb⟩
            obtain ⟨q', c', rfl⟩ := Ow_form how
            go_wp2_with fail
            exact hK ⟨q', c', undef⟩ x' hb (fun F y hF hy => (Rd.of_ow how).keeps hy (fun k hk => .inr (hF k (how.lt k hk).1 (how.lt k hk).2)))
          intro K hK; go_simp; refine hK _ ?_; clear hK K
          iterate 1 (refine Rc.rK rfl rfl ?_; intro K hK; apply Exists.intro; refine ⟨?_, ?_⟩; (focus (intro x hx;  go_simp; (first | (fail) | ((try go_bits); (try go_simp); (try rfl))))); go_simp; refine hK _ ?_; clear hK K)
          refine Rc.r_str rfl rfl 23 9 _ rfl 5 Tryd.underlying9 Tryd.underlying23 Tryd.underlying5 _ _ (Rn) rfl (fun x hx => Rp3.row (Rp.row_le (Rc.undrew hx) HRB9.out) HNL.out (by decide)) ?_; intro K hK; go_simp; refine hK _ ?_; clear hK K
          refine Rc.fK rfl rfl rfl rfl ?_ ?_
          · intro x Fs hx hle hg K hK
            have hbx : Below w.heap.size w x := HB9.out.trans ((Rc.undrew hx).mono HB9.out.size)
            have hck := (by rw [← HE1.out]; exact refcheckI_any X a b P2 (p 17).q (p 17).c Rn x HXL.out hb63 HPN.out (HR.out.below hbx) hg.1 : Calls Tryd.prog 37 #[.string ⟨X.toArray⟩, .int .i64 a, .int .i64 b, .slice (p 17).q P2.length (p 17).c, .string ⟨Rn.toArray⟩] x fun e w' => e = .returned (.int .i64 E1) ∧ Below x.heap.size x w')
            have HCC := Lib.hid hck
            clear hck hg
            go_wp2_with fail
            refine HCC.out.mono ?_
            rintro e x' ⟨rfl, hb⟩
            go_wp2_with fail
            exact hK Rc.dflt x' hb (fun _ _ _ _ => trivial)
          intro K hK; go_simp; refine hK _ ?_; clear hK K
          iterate 6 (refine Rc.rK rfl rfl ?_; intro K hK; apply Exists.intro; refine ⟨?_, ?_⟩; (focus (intro x hx;  go_simp; (first | (fail) | ((try go_bits); (try go_simp); (try rfl))))); go_simp; refine hK _ ?_; clear hK K)
          refine Rc.r_load rfl rfl _ _ rfl (.agg (bysA Ra)) (fun x hx => load_whole (Rp.row_le (Rc.undrew hx) HOB9.out) HAL.out) ?_; intro K hK; go_simp; refine hK _ ?_; clear hK K
          refine Rc.r_load rfl rfl _ _ rfl (.agg (bysA Rn)) (fun x hx => load_whole (Rp.row_le (Rc.undrew hx) HRB9.out) HNL.out) ?_; intro K hK; go_simp; refine hK _ ?_; clear hK K
          refine Rc.fK rfl rfl rfl rfl ?_ ?_
          · intro x Fs hx hle hg K hK
            have hbx : Below w.heap.size w x := HB9.out.trans ((Rc.undrew hx).mono HB9.out.size)
            have hck := (by rw [HF2.out]; exact checkC_any ((a : Int) + 1) b q2 qc2 Q2 Ra Rn x (HS.out.below hbx) (HQ9.out.below (Rc.undrew hx)) hQ2 HAL.out HNL.out hb63 : Calls Tryd.prog 36 #[.int .i64 ((a : Int) + 1), .int .i64 b, .slice q2 Q2.length qc2, .agg (bysA Ra), .agg (bysA Rn)] x fun e w' => e = .returned (.int .i64 E2) ∧ Below x.heap.size x w')
            have HCC := Lib.hid hck
            clear hck hg
            go_wp2_with fail
            refine HCC.out.mono ?_
            rintro e x' ⟨rfl, hb⟩
            go_wp2_with fail
            exact hK Rc.dflt x' hb (fun _ _ _ _ => trivial)
          intro K hK; go_simp; refine hK _ ?_; clear hK K
          iterate 4 (refine Rc.rK rfl rfl ?_; intro K hK; apply Exists.intro; refine ⟨?_, ?_⟩; (focus (intro x hx;  go_simp; (first | (fail) | ((try go_bits); (try go_simp); (try rfl))))); go_simp; refine hK _ ?_; clear hK K)
          refine Rc.fK rfl rfl rfl rfl ?_ ?_
          · intro x Fs hx hle hg K hK
            have ht := texts16_any q2 qc2 Q2 x (HQ9.out.below (Rc.undrew hx)) (by omega)
            have HTX := Lib.hid ht
            clear ht
            go_wp2_with fail
            refine HTX.out.mono ?_
            rintro e x' ⟨v, rfl, how, hb⟩
            obtain ⟨q', c', rfl⟩ := Ow_form how
            go_wp2_with fail
            exact hK ⟨q', c', undef⟩ x' hb (fun F y hF hy => (Rd.of_ow how).keeps hy (fun k hk => .inr (hF k (how.lt k hk).1 (how.lt k hk).2)))
          intro K hK; go_simp; refine hK _ ?_; clear hK K
          iterate 1 (refine Rc.rK rfl rfl ?_; intro K hK; apply Exists.intro; refine ⟨?_, ?_⟩; (focus (intro x hx;  go_simp; (first | (fail) | ((try go_bits); (try go_simp); (try rfl))))); go_simp; refine hK _ ?_; clear hK K)
          refine Rc.r_str rfl rfl 23 9 _ rfl 5 Tryd.underlying9 Tryd.underlying23 Tryd.underlying5 _ _ (Ra) rfl (fun x hx => Rp3.row (Rp.row_le (Rc.undrew hx) HOB9.out) HAL.out (by decide)) ?_; intro K hK; go_simp; refine hK _ ?_; clear hK K
          iterate 1 (refine Rc.rK rfl rfl ?_; intro K hK; apply Exists.intro; refine ⟨?_, ?_⟩; (focus (intro x hx;  go_simp; (first | (fail) | ((try go_bits); (try go_simp); (try rfl))))); go_simp; refine hK _ ?_; clear hK K)
          refine Rc.r_str rfl rfl 23 9 _ rfl 5 Tryd.underlying9 Tryd.underlying23 Tryd.underlying5 _ _ (Rn) rfl (fun x hx => Rp3.row (Rp.row_le (Rc.undrew hx) HRB9.out) HNL.out (by decide)) ?_; intro K hK; go_simp; refine hK _ ?_; clear hK K
          refine Rc.fK rfl rfl rfl rfl ?_ ?_
          · intro x Fs hx hle hg K hK
            have hbx : Below w.heap.size w x := HB9.out.trans ((Rc.undrew hx).mono HB9.out.size)
            have hck := (by rw [← HE2.out]; exact refcheckC_any ((a : Int) + 1) b Q2 (p 34).q (p 34).c Ra Rn x (by rw [HAL.out]; decide) hb63 HQN.out (HR.out.below hbx) hg.1 : Calls Tryd.prog 38 #[.int .i64 ((a : Int) + 1), .int .i64 b, .slice (p 34).q Q2.length (p 34).c, .string ⟨Ra.toArray⟩, .string ⟨Rn.toArray⟩] x fun e w' => e = .returned (.int .i64 E2) ∧ Below x.heap.size x w')
            have HCC := Lib.hid hck
            clear hck hg
            go_wp2_with fail
            refine HCC.out.mono ?_
            rintro e x' ⟨rfl, hb⟩
            go_wp2_with fail
            exact hK Rc.dflt x' hb (fun _ _ _ _ => trivial)
          intro K hK; go_simp; refine hK _ ?_; clear hK K
          iterate 2 (refine Rc.rK rfl rfl ?_; intro K hK; apply Exists.intro; refine ⟨?_, ?_⟩; (focus (intro x hx;  go_simp; (first | (fail) | ((try go_bits); (try go_simp); (try rfl))))); go_simp; refine hK _ ?_; clear hK K)
          refine Rc.done fun x Fs hx hle hg => ?_
          have HX : Hid (Below w.heap.size w x) := Lib.hid (HB9.out.trans ((Rc.undrew hx).mono HB9.out.size))
          clear hx hle hg cW
          go_wp2_with fail
          refine NoPanic.normal ?_
          go_wp2_with fail
          go_ret
          exact ⟨rfl, HX.out⟩
        ·
          obtain ⟨t, ht⟩ : ∃ t, QQ.length = t + 1 := ⟨QQ.length - 1, by omega⟩
          have hqI : (0 : Int) < (QQ.length : Int) := by omega
          have hqN : 0 < QQ.length := by omega
          have hqs : (QQ.length : Int) - 1 = (t : Int) := by omega
          have hqc := (Rd_cap (Rd.of_ow HQ8.out.2)).1
          have htqc : t ≤ qc := by omega
          have htqcI : (t : Int) ≤ (qc : Int) := by omega
          have ht20 : t ≤ 20 := by omega
          obtain ⟨U, hU⟩ : ∃ U, U = QQ.take t := ⟨_, rfl⟩
          have hUl : U.length = t := by rw [hU, List.length_take]; omega
          have HQU : Hid (RdL w8 (.slice qq t qc) U) := Lib.hid (by rw [hU]; exact HQ8.out.rd.cut' (by omega))
          have HUL := Lib.hid hUl
          clear ht hU hqc hQ0 hUl
          go_wp2_with (refine l_cutlo2 rfl 61 _ _ rfl 22 i0 Tryd.underlying61 hi0 gp 0 PP.length pc 1 32 T.length hz1 rfl rfl hp1 hnc2 hT1 ?_; go_must (intro o3 ho3))
          have HPT := Lib.hid (HDR.out o3 ho3)
          clear ho3
          obtain ⟨wF, hwF⟩ : ∃ wF, wF = w8 := ⟨_, rfl⟩
          have HB9 : Hid (Below w.heap.size w wF) := Lib.hid (by rw [hwF]; exact HB8.out)
          have HO9 : Hid (Rd wF 1 (.slice qw b cw) b (strs N)) := Lib.hid (by rw [hwF]; exact HO8.out)
          have HRB9 : Hid (wF.heap[rb]? = some (.cells (bysA Rn) 22 (0, 0))) := Lib.hid (by rw [hwF]; exact HRN8.out)
          have HOB9 : Hid (wF.heap[ob]? = some (.cells (bysA Ra) 22 (0, 0))) := Lib.hid (by rw [hwF]; exact HRB8.out)
          rw [← hwF]
          obtain ⟨P2, hP2⟩ : ∃ P2, P2 = T := ⟨_, rfl⟩
          obtain ⟨p2, hp2⟩ : ∃ p2 : Option Addr, p2 = some ⟨gp, o3, none⟩ := ⟨_, rfl⟩
          obtain ⟨pc2, hpc2⟩ : ∃ pc2, pc2 = pc - 1 := ⟨_, rfl⟩
          have HP9 : Hid (RdL wF (.slice p2 P2.length pc2) P2) := Lib.hid (by rw [hP2, hp2, hpc2]; exact by rw [hwF]; exact HPT.out)
          have hP2l : P2.length ≤ 1000 := by rw [hP2]; (try (have h9 := HL2P.out; rw [h9])); omega
          rw [← hP2, ← hp2, ← hpc2]
          clear hP2 hp2 hpc2
          rw [← HUL.out]
          obtain ⟨Q2, hQ2e⟩ : ∃ Q2, Q2 = U := ⟨_, rfl⟩
          obtain ⟨q2, hq2⟩ : ∃ q2 : Option Addr, q2 = qq := ⟨_, rfl⟩
          obtain ⟨qc2, hqc2⟩ : ∃ qc2, qc2 = qc := ⟨_, rfl⟩
          have HQ9 : Hid (RdL wF (.slice q2 Q2.length qc2) Q2) := Lib.hid (by rw [hQ2e, hq2, hqc2]; exact by rw [hwF, HUL.out]; exact HQU.out)
          have hQ2 : Q2.length ≤ 1000 := by rw [hQ2e]; have := HUL.out; omega
          rw [← hQ2e, ← hq2, ← hqc2]
          clear hQ2e hq2 hqc2
          have HE1 : Hid (refchkI X a b P2 Rn = chkI X a b P2 Rn) := Lib.hid (chkI_same _ _ _ _ _)
          have HE2 : Hid (refchkC ((a : Int) + 1) b Q2 Ra Rn = chkC ((a : Int) + 1) b Q2 Ra Rn) := Lib.hid (chkC_same _ _ _ _ _)
          have HPN : Hid (∀ x ∈ P2, x.length ≤ 1000) := Lib.hid (fun x hx => by rw [HP9.out.1 x hx]; decide)
          have HQN : Hid (∀ x ∈ Q2, x.length ≤ 1000) := Lib.hid (fun x hx => by rw [HQ9.out.1 x hx]; decide)
          obtain ⟨E1, hE1⟩ : ∃ E1, E1 = chkI X a b P2 Rn := ⟨_, rfl⟩
          obtain ⟨E2, hE2⟩ : ∃ E2, E2 = chkC ((a : Int) + 1) b Q2 Ra Rn := ⟨_, rfl⟩
          rw [← hE1] at HE1
          rw [← hE2] at HE2
          have HF1 := Lib.hid hE1
          have HF2 := Lib.hid hE2
          obtain ⟨bw, ow, hqw, hbw, _, _, hcw2⟩ := Rd_lt HO9.out hb0
          subst hqw
          have cW : (wF).cell? ⟨bw, ow + a, none⟩ = some (.string ⟨X.toArray⟩) := by rw [HXX.out]; exact hcw2 a _ (strs_get (by have := HBN.out; omega))
          clear hE1 hE2 hcw2


          refine Rc.region ((wF).heap.size) 42 [Rc.F 4 (fun p => .slice p.q X.length p.c) (fun p _ y => Rd y 1 (.slice p.q X.length p.c) X.length (bys X)), Rc.G 9 [4] (fun _ => .int .i64 E1) (fun _ _ _ => True), Rc.F 17 (fun p => .slice p.q P2.length p.c) (fun p _ y => Rd y 1 (.slice p.q P2.length p.c) P2.length (strs P2)), Rc.G 20 [17] (fun _ => .int .i64 E1) (fun _ _ _ => True), Rc.F 29 (fun _ => .int .i64 E2) (fun _ _ _ => True), Rc.F 34 (fun p => .slice p.q Q2.length p.c) (fun p _ y => Rd y 1 (.slice p.q Q2.length p.c) Q2.length (strs Q2)), Rc.G 39 [34] (fun _ => .int .i64 E2) (fun _ _ _ => True)] [] (by kernel_rfl) (Nat.le_refl _) (by kernel_rfl) ?_; intro p; simp only [List.take, List.drop]
          iterate 3 (refine Rc.rK rfl rfl ?_; intro K hK; apply Exists.intro; refine ⟨?_, ?_⟩; (focus (intro x hx;  go_simp; (first | (fail) | ((try go_bits); (try go_simp); (try rfl))))); go_simp; refine hK _ ?_; clear hK K)
          iterate 1 (refine Rc.rK rfl rfl ?_; intro K hK; apply Exists.intro; refine ⟨?_, ?_⟩; (focus (intro x hx; have d0 := Rc.cell_le hx hbw cW; go_simp; (first | (fail) | ((try go_bits); (try go_simp); (try rfl))))); go_simp; refine hK _ ?_; clear hK K)
          refine Rc.fK rfl rfl rfl rfl ?_ ?_
          · intro x Fs hx hle hg K hK
            refine conv_bytes rfl 9 23 _ rfl 5 Tryd.underlying9 Tryd.underlying23 Tryd.underlying5 ⟨X.toArray⟩ rfl x.heap.size (Nat.le_refl _) (by show X.length ≤ maxLen; have := HXL.out; unfold maxLen; omega) ?_
            intro v x' how hb
            have how : Ow x' x.heap.size 5 1 v X.length (bys X) := how
            obtain ⟨q', c', rfl⟩ := Ow_form how
            go_wp2_with fail
            exact hK ⟨q', c', undef⟩ x' hb (fun F y hF hy => (Rd.of_ow how).keeps hy (fun k hk => .inr (hF k (how.lt k hk).1 (how.lt k hk).2)))
          intro K hK; go_simp; refine hK _ ?_; clear hK K
          iterate 3 (refine Rc.rK rfl rfl ?_; intro K hK; apply Exists.intro; refine ⟨?_, ?_⟩; (focus (intro x hx;  go_simp; (first | (fail) | ((try go_bits); (try go_simp); (try rfl))))); go_simp; refine hK _ ?_; clear hK K)
          refine Rc.r_load rfl rfl _ _ rfl (.agg (bysA Rn)) (fun x hx => load_whole (Rp.row_le (Rc.undrew hx) HRB9.out) HNL.out) ?_; intro K hK; go_simp; refine hK _ ?_; clear hK K
          refine Rc.fK rfl rfl rfl rfl ?_ ?_
          · intro x Fs hx hle hg K hK
            have hbx : Below w.heap.size w x := HB9.out.trans ((Rc.undrew hx).mono HB9.out.size)
            have hck := (by rw [HF1.out]; exact checkI_any (p 4).q (p 4).c X a b p2 pc2 P2 Rn x (HS.out.below hbx) hg.1 (by have := HXL.out; omega) (HP9.out.below (Rc.undrew hx)) HNL.out hb63 : Calls Tryd.prog 35 #[.slice (p 4).q X.length (p 4).c, .int .i64 a, .int .i64 b, .slice p2 P2.length pc2, .agg (bysA Rn)] x fun e w' => e = .returned (.int .i64 E1) ∧ Below x.heap.size x w')
            have HCC := Lib.hid hck
            clear hck hg
            go_wp2_with fail
            refine HCC.out.mono ?_
            rintro e x' ⟨rfl, hb⟩
            go_wp2_with fail
            exact hK Rc.dflt x' hb (fun _ _ _ _ => trivial)
          intro K hK; go_simp; refine hK _ ?_; clear hK K
          iterate 3 (refine Rc.rK rfl rfl ?_; intro K hK; apply Exists.intro; refine ⟨?_, ?_⟩; (focus (intro x hx;  go_simp; (first | (fail) | ((try go_bits); (try go_simp); (try rfl))))); go_simp; refine hK _ ?_; clear hK K)
          iterate 1 (refine Rc.rK rfl rfl ?_; intro K hK; apply Exists.intro; refine ⟨?_, ?_⟩; (focus (intro x hx; have d0 := Rc.cell_le hx hbw cW; go_simp; (first | (fail) | ((try go_bits); (try go_simp); (try rfl))))); go_simp; refine hK _ ?_; clear hK K)
          iterate 3 (refine Rc.rK rfl rfl ?_; intro K hK; apply Exists.intro; refine ⟨?_, ?_⟩; (focus (intro x hx;  go_simp; (first | (fail) | ((try go_bits); (try go_simp); (try rfl))))); go_simp; refine hK _ ?_; clear hK K)
          refine Rc.fK rfl rfl rfl rfl ?_ ?_
          · intro x Fs hx hle hg K hK
            have ht := texts16_any p2 pc2 P2 x (HP9.out.below (Rc.undrew hx)) (by omega)
            have HTX := Lib.hid ht
            clear ht
            go_wp2_with fail
            refine HTX.out.mono ?_
            rintro e x' ⟨v, rfl, how, hb⟩
            obtain ⟨q', c', rfl⟩ := Ow_form how
            go_wp2_with fail
            exact hK ⟨q', c', undef⟩ x' hb (fun F y hF hy => (Rd.of_ow how).keeps hy (fun k hk => .inr (hF k (how.lt k hk).1 (how.lt k hk).2)))
          intro K hK; go_simp; refine hK _ ?_; clear hK K
          iterate 1 (refine Rc.rK rfl rfl ?_; intro K hK; apply Exists.intro; refine ⟨?_, ?_⟩; (focus (intro x hx;  go_simp; (first | (fail) | ((try go_bits); (try go_simp); (try rfl))))); go_simp; refine hK _ ?_; clear hK K)
          refine Rc.r_str rfl rfl 23 9 _ rfl 5 Tryd.underlying9 Tryd.underlying23 Tryd.underlying5 _ _ (Rn) rfl (fun x hx => Rp3.row (Rp.row_le (Rc.undrew hx) HRB9.out) HNL.out (by decide)) ?_; intro K hK; go_simp; refine hK _ ?_; clear hK K
          refine Rc.fK rfl rfl rfl rfl ?_ ?_
          · intro x Fs hx hle hg K hK
            have hbx : Below w.heap.size w x := HB9.out.trans ((Rc.undrew hx).mono HB9.out.size)
            have hck := (by rw [← HE1.out]; exact refcheckI_any X a b P2 (p 17).q (p 17).c Rn x HXL.out hb63 HPN.out (HR.out.below hbx) hg.1 : Calls Tryd.prog 37 #[.string ⟨X.toArray⟩, .int .i64 a, .int .i64 b, .slice (p 17).q P2.length (p 17).c, .string ⟨Rn.toArray⟩] x fun e w' => e = .returned (.int .i64 E1) ∧ Below x.heap.size x w')
            have HCC := Lib.hid hck
            clear hck hg
            go_wp2_with fail
            refine HCC.out.mono ?_
            rintro e x' ⟨rfl, hb⟩
            go_wp2_with fail
            exact hK Rc.dflt x' hb (fun _ _ _ _ => trivial)
          intro K hK; go_simp; refine hK _ ?_; clear hK K
          iterate 6 (refine Rc.rK rfl rfl ?_; intro K hK; apply Exists.intro; refine ⟨?_, ?_⟩; (focus (intro x hx;  go_simp; (first | (fail) | ((try go_bits); (try go_simp); (try rfl))))); go_simp; refine hK _ ?_; clear hK K)
          refine Rc.r_load rfl rfl _ _ rfl (.agg (bysA Ra)) (fun x hx => load_whole (Rp.row_le (Rc.undrew hx) HOB9.out) HAL.out) ?_; intro K hK; go_simp; refine hK _ ?_; clear hK K
          refine Rc.r_load rfl rfl _ _ rfl (.agg (bysA Rn)) (fun x hx => load_whole (Rp.row_le (Rc.undrew hx) HRB9.out) HNL.out) ?_; intro K hK; go_simp; refine hK _ ?_; clear hK K
          refine Rc.fK rfl rfl rfl rfl ?_ ?_
          · intro x Fs hx hle hg K hK
            have hbx : Below w.heap.size w x := HB9.out.trans ((Rc.undrew hx).mono HB9.out.size)
            have hck := (by rw [HF2.out]; exact checkC_any ((a : Int) + 1) b q2 qc2 Q2 Ra Rn x (HS.out.below hbx) (HQ9.out.below (Rc.undrew hx)) hQ2 HAL.out HNL.out hb63 : Calls Tryd.prog 36 #[.int .i64 ((a : Int) + 1), .int .i64 b, .slice q2 Q2.length qc2, .agg (bysA Ra), .agg (bysA Rn)] x fun e w' => e = .returned (.int .i64 E2) ∧ Below x.heap.size x w')
            have HCC := Lib.hid hck
            clear hck hg
            go_wp2_with fail
            refine HCC.out.mono ?_
            rintro e x' ⟨rfl, hb⟩
            go_wp2_with fail
            exact hK Rc.dflt x' hb (fun _ _ _ _ => trivial)
          intro K hK; go_simp; refine hK _ ?_; clear hK K
          iterate 4 (refine Rc.rK rfl rfl ?_; intro K hK; apply Exists.intro; refine ⟨?_, ?_⟩; (focus (intro x hx;  go_simp; (first | (fail) | ((try go_bits); (try go_simp); (try rfl))))); go_simp; refine hK _ ?_; clear hK K)
          refine Rc.fK rfl rfl rfl rfl ?_ ?_
          · intro x Fs hx hle hg K hK
            have ht := texts16_any q2 qc2 Q2 x (HQ9.out.below (Rc.undrew hx)) (by omega)
            have HTX := Lib.hid ht
            clear ht
            go_wp2_with fail
            refine HTX.out.mono ?_
            rintro e x' ⟨v, rfl, how, hb⟩
            obtain ⟨q', c', rfl⟩ := Ow_form how
            go_wp2_with fail
            exact hK ⟨q', c', undef⟩ x' hb (fun F y hF hy => (Rd.of_ow how).keeps hy (fun k hk => .inr (hF k (how.lt k hk).1 (how.lt k hk).2)))
          intro K hK; go_simp; refine hK _ ?_; clear hK K
          iterate 1 (refine Rc.rK rfl rfl ?_; intro K hK; apply Exists.intro; refine ⟨?_, ?_⟩; (focus (intro x hx;  go_simp; (first | (fail) | ((try go_bits); (try go_simp); (try rfl))))); go_simp; refine hK _ ?_; clear hK K)
          refine Rc.r_str rfl rfl 23 9 _ rfl 5 Tryd.underlying9 Tryd.underlying23 Tryd.underlying5 _ _ (Ra) rfl (fun x hx => Rp3.row (Rp.row_le (Rc.undrew hx) HOB9.out) HAL.out (by decide)) ?_; intro K hK; go_simp; refine hK _ ?_; clear hK K
          iterate 1 (refine Rc.rK rfl rfl ?_; intro K hK; apply Exists.intro; refine ⟨?_, ?_⟩; (focus (intro x hx;  go_simp; (first | (fail) | ((try go_bits); (try go_simp); (try rfl))))); go_simp; refine hK _ ?_; clear hK K)
          refine Rc.r_str rfl rfl 23 9 _ rfl 5 Tryd.underlying9 Tryd.underlying23 Tryd.underlying5 _ _ (Rn) rfl (fun x hx => Rp3.row (Rp.row_le (Rc.undrew hx) HRB9.out) HNL.out (by decide)) ?_; intro K hK; go_simp; refine hK _ ?_; clear hK K
          refine Rc.fK rfl rfl rfl rfl ?_ ?_
          · intro x Fs hx hle hg K hK
            have hbx : Below w.heap.size w x := HB9.out.trans ((Rc.undrew hx).mono HB9.out.size)
            have hck := (by rw [← HE2.out]; exact refcheckC_any ((a : Int) + 1) b Q2 (p 34).q (p 34).c Ra Rn x (by rw [HAL.out]; decide) hb63 HQN.out (HR.out.below hbx) hg.1 : Calls Tryd.prog 38 #[.int .i64 ((a : Int) + 1), .int .i64 b, .slice (p 34).q Q2.length (p 34).c, .string ⟨Ra.toArray⟩, .string ⟨Rn.toArray⟩] x fun e w' => e = .returned (.int .i64 E2) ∧ Below x.heap.size x w')
            have HCC := Lib.hid hck
            clear hck hg
            go_wp2_with fail
            refine HCC.out.mono ?_
            rintro e x' ⟨rfl, hb⟩
            go_wp2_with fail
            exact hK Rc.dflt x' hb (fun _ _ _ _ => trivial)
          intro K hK; go_simp; refine hK _ ?_; clear hK K
          iterate 2 (refine Rc.rK rfl rfl ?_; intro K hK; apply Exists.intro; refine ⟨?_, ?_⟩; (focus (intro x hx;  go_simp; (first | (fail) | ((try go_bits); (try go_simp); (try rfl))))); go_simp; refine hK _ ?_; clear hK K)
          refine Rc.done fun x Fs hx hle hg => ?_
          have HX : Hid (Below w.heap.size w x) := Lib.hid (HB9.out.trans ((Rc.undrew hx).mono HB9.out.size))
          clear hx hle hg cW
          go_wp2_with fail
          refine NoPanic.normal ?_
          go_wp2_with fail
          go_ret
          exact ⟨rfl, HX.out⟩
    · have hm2 : (IntKind.u64.wrap at').tmod 3 = 2 := hmv
      clear hmv
      obtain ⟨kk, hkk, _, hke⟩ := modlen16 ((IntKind.u64.wrap at').tdiv 3) 32 (by decide) (by decide)
      have hkv : wrap64 ((IntKind.u64.wrap ((IntKind.u64.wrap at').tdiv 3)).tmod 32) = (kk : Int) := hke
      have hkI : (kk : Int) < 32 := by omega
      clear hke
      by_cases hP0 : PP.length = 0
      ·
        have hpI : ¬ (0 : Int) < (PP.length : Int) := by omega
        have hpN : ¬ 0 < PP.length := by omega
        clear hP0
        by_cases hQ0 : QQ.length = 0
        ·
          have hqI : ¬ (0 : Int) < (QQ.length : Int) := by omega
          have hqN : ¬ 0 < QQ.length := by omega
          clear hQ0
          go_wp2_with fail
          obtain ⟨wF, hwF⟩ : ∃ wF, wF = w8 := ⟨_, rfl⟩
          have HB9 : Hid (Below w.heap.size w wF) := Lib.hid (by rw [hwF]; exact HB8.out)
          have HO9 : Hid (Rd wF 1 (.slice qw b cw) b (strs N)) := Lib.hid (by rw [hwF]; exact HO8.out)
          have HRB9 : Hid (wF.heap[rb]? = some (.cells (bysA Rn) 22 (0, 0))) := Lib.hid (by rw [hwF]; exact HRN8.out)
          have HOB9 : Hid (wF.heap[ob]? = some (.cells (bysA Ra) 22 (0, 0))) := Lib.hid (by rw [hwF]; exact HRB8.out)
          rw [← hwF]
          obtain ⟨P2, hP2⟩ : ∃ P2, P2 = PP := ⟨_, rfl⟩
          obtain ⟨p2, hp2⟩ : ∃ p2 : Option Addr, p2 = pq := ⟨_, rfl⟩
          obtain ⟨pc2, hpc2⟩ : ∃ pc2, pc2 = pc := ⟨_, rfl⟩
          have HP9 : Hid (RdL wF (.slice p2 P2.length pc2) P2) := Lib.hid (by rw [hP2, hp2, hpc2]; exact by rw [hwF]; exact HP8.out.rd)
          have hP2l : P2.length ≤ 1000 := by rw [hP2]; (try (have h9 := HL2P.out; rw [h9])); omega
          rw [← hP2, ← hp2, ← hpc2]
          clear hP2 hp2 hpc2
          obtain ⟨Q2, hQ2e⟩ : ∃ Q2, Q2 = QQ := ⟨_, rfl⟩
          obtain ⟨q2, hq2⟩ : ∃ q2 : Option Addr, q2 = qq := ⟨_, rfl⟩
          obtain ⟨qc2, hqc2⟩ : ∃ qc2, qc2 = qc := ⟨_, rfl⟩
          have HQ9 : Hid (RdL wF (.slice q2 Q2.length qc2) Q2) := Lib.hid (by rw [hQ2e, hq2, hqc2]; exact by rw [hwF]; exact HQ8.out.rd)
          have hQ2 : Q2.length ≤ 1000 := by rw [hQ2e]; omega
          rw [← hQ2e, ← hq2, ← hqc2]
          clear hQ2e hq2 hqc2
          have HE1 : Hid (refchkI X a b P2 Rn = chkI X a b P2 Rn) := Lib.hid (chkI_same _ _ _ _ _)
          have HE2 : Hid (refchkC ((a : Int) + 1) b Q2 Ra Rn = chkC ((a : Int) + 1) b Q2 Ra Rn) := Lib.hid (chkC_same _ _ _ _ _)
          have HPN : Hid (∀ x ∈ P2, x.length ≤ 1000) := Lib.hid (fun x hx => by rw [HP9.out.1 x hx]; decide)
          have HQN : Hid (∀ x ∈ Q2, x.length ≤ 1000) := Lib.hid (fun x hx => by rw [HQ9.out.1 x hx]; decide)
          obtain ⟨E1, hE1⟩ : ∃ E1, E1 = chkI X a b P2 Rn := ⟨_, rfl⟩
          obtain ⟨E2, hE2⟩ : ∃ E2, E2 = chkC ((a : Int) + 1) b Q2 Ra Rn := ⟨_, rfl⟩
          rw [← hE1] at HE1
          rw [← hE2] at HE2
          have HF1 := Lib.hid hE1
          have HF2 := Lib.hid hE2
          obtain ⟨bw, ow, hqw, hbw, _, _, hcw2⟩ := Rd_lt HO9.out hb0
          subst hqw
          have cW : (wF).cell? ⟨bw, ow + a, none⟩ = some (.string ⟨X.toArray⟩) := by rw [HXX.out]; exact hcw2 a _ (strs_get (by have := HBN.out; omega))
          clear hE1 hE2 hcw2


          refine Rc.region ((wF).heap.size) 42 [Rc.F 4 (fun p => .slice p.q X.length p.c) (fun p _ y => Rd y 1 (.slice p.q X.length p.c) X.length (bys X)), Rc.G 9 [4] (fun _ => .int .i64 E1) (fun _ _ _ => True), Rc.F 17 (fun p => .slice p.q P2.length p.c) (fun p _ y => Rd y 1 (.slice p.q P2.length p.c) P2.length (strs P2)), Rc.G 20 [17] (fun _ => .int .i64 E1) (fun _ _ _ => True), Rc.F 29 (fun _ => .int .i64 E2) (fun _ _ _ => True), Rc.F 34 (fun p => .slice p.q Q2.length p.c) (fun p _ y => Rd y 1 (.slice p.q Q2.length p.c) Q2.length (strs Q2)), Rc.G 39 [34] (fun _ => .int .i64 E2) (fun _ _ _ => True)] [] (by kernel_rfl) (Nat.le_refl _) (by kernel_rfl) ?_; intro p; simp only [List.take, List.drop]
          iterate 3 (refine Rc.rK rfl rfl ?_; intro K hK; apply Exists.intro; refine ⟨?_, ?_⟩; (focus (intro x hx;  go_simp; (first | (fail) | ((try go_bits); (try go_simp); (try rfl))))); go_simp; refine hK _ ?_; clear hK K)
          iterate 1 (refine Rc.rK rfl rfl ?_; intro K hK; apply Exists.intro; refine ⟨?_, ?_⟩; (focus (intro x hx; have d0 := Rc.cell_le hx hbw cW; go_simp; (first | (fail) | ((try go_bits); (try go_simp); (try rfl))))); go_simp; refine hK _ ?_; clear hK K)
          refine Rc.fK rfl rfl rfl rfl ?_ ?_
          · intro x Fs hx hle hg K hK
            refine conv_bytes rfl 9 23 _ rfl 5 Tryd.underlying9 Tryd.underlying23 Tryd.underlying5 ⟨X.toArray⟩ rfl x.heap.size (Nat.le_refl _) (by show X.length ≤ maxLen; have := HXL.out; unfold maxLen; omega) ?_
            intro v x' how hb
            have how : Ow x' x.heap.size 5 1 v X.length (bys X) := how
            obtain ⟨q', c', rfl⟩ := Ow_form how
            go_wp2_with fail
            exact hK ⟨q', c', undef⟩ x' hb (fun F y hF hy => (Rd.of_ow how).keeps hy (fun k hk => .inr (hF k (how.lt k hk).1 (how.lt k hk).2)))
          intro K hK; go_simp; refine hK _ ?_; clear hK K
          iterate 3 (refine Rc.rK rfl rfl ?_; intro K hK; apply Exists.intro; refine ⟨?_, ?_⟩; (focus (intro x hx;  go_simp; (first | (fail) | ((try go_bits); (try go_simp); (try rfl))))); go_simp; refine hK _ ?_; clear hK K)
          refine Rc.r_load rfl rfl _ _ rfl (.agg (bysA Rn)) (fun x hx => load_whole (Rp.row_le (Rc.undrew hx) HRB9.out) HNL.out) ?_; intro K hK; go_simp; refine hK _ ?_; clear hK K
          refine Rc.fK rfl rfl rfl rfl ?_ ?_
          · intro x Fs hx hle hg K hK
            have hbx : Below w.heap.size w x := HB9.out.trans ((Rc.undrew hx).mono HB9.out.size)
            have hck := (by rw [HF1.out]; exact checkI_any (p 4).q (p 4).c X a b p2 pc2 P2 Rn x (HS.out.below hbx) hg.1 (by have := HXL.out; omega) (HP9.out.below (Rc.undrew hx)) HNL.out hb63 : Calls Tryd.prog 35 #[.slice (p 4).q X.length (p 4).c, .int .i64 a, .int .i64 b, .slice p2 P2.length pc2, .agg (bysA Rn)] x fun e w' => e = .returned (.int .i64 E1) ∧ Below x.heap.size x w')
            have HCC := Lib.hid hck
            clear hck hg
            go_wp2_with fail
            refine HCC.out.mono ?_
            rintro e x' ⟨rfl, hb⟩
            go_wp2_with fail
            exact hK Rc.dflt x' hb (fun _ _ _ _ => trivial)
          intro K hK; go_simp; refine hK _ ?_; clear hK K
          iterate 3 (refine Rc.rK rfl rfl ?_; intro K hK; apply Exists.intro; refine ⟨?_, ?_⟩; (focus (intro x hx;  go_simp; (first | (fail) | ((try go_bits); (try go_simp); (try rfl))))); go_simp; refine hK _ ?_; clear hK K)
          iterate 1 (refine Rc.rK rfl rfl ?_; intro K hK; apply Exists.intro; refine ⟨?_, ?_⟩; (focus (intro x hx; have d0 := Rc.cell_le hx hbw cW; go_simp; (first | (fail) | ((try go_bits); (try go_simp); (try rfl))))); go_simp; refine hK _ ?_; clear hK K)
          iterate 3 (refine Rc.rK rfl rfl ?_; intro K hK; apply Exists.intro; refine ⟨?_, ?_⟩; (focus (intro x hx;  go_simp; (first | (fail) | ((try go_bits); (try go_simp); (try rfl))))); go_simp; refine hK _ ?_; clear hK K)
          refine Rc.fK rfl rfl rfl rfl ?_ ?_
          · intro x Fs hx hle hg K hK
            have ht := texts16_any p2 pc2 P2 x (HP9.out.below (Rc.undrew hx)) (by omega)
            have HTX := Lib.hid ht
            clear ht
            go_wp2_with fail
            refine HTX.out.mono ?_
            rintro e x' ⟨v, rfl, how, hb⟩
            obtain ⟨q', c', rfl⟩ := Ow_form how
            go_wp2_with fail
            exact hK ⟨q', c', undef⟩ x' hb (fun F y hF hy => (Rd.of_ow how).keeps hy (fun k hk => .inr (hF k (how.lt k hk).1 (how.lt k hk).2)))
          intro K hK; go_simp; refine hK _ ?_; clear hK K
          iterate 1 (refine Rc.rK rfl rfl ?_; intro K hK; apply Exists.intro; refine ⟨?_, ?_⟩; (focus (intro x hx;  go_simp; (first | (fail) | ((try go_bits); (try go_simp); (try rfl))))); go_simp; refine hK _ ?_; clear hK K)
          refine Rc.r_str rfl rfl 23 9 _ rfl 5 Tryd.underlying9 Tryd.underlying23 Tryd.underlying5 _ _ (Rn) rfl (fun x hx => Rp3.row (Rp.row_le (Rc.undrew hx) HRB9.out) HNL.out (by decide)) ?_; intro K hK; go_simp; refine hK _ ?_; clear hK K
          refine Rc.fK rfl rfl rfl rfl ?_ ?_
          · intro x Fs hx hle hg K hK
            have hbx : Below w.heap.size w x := HB9.out.trans ((Rc.undrew hx).mono HB9.out.size)
            have hck := (by rw [← HE1.out]; exact refcheckI_any X a b P2 (p 17).q (p 17).c Rn x HXL.out hb63 HPN.out (HR.out.below hbx) hg.1 : Calls Tryd.prog 37 #[.string ⟨X.toArray⟩, .int .i64 a, .int .i64 b, .slice (p 17).q P2.length (p 17).c, .string ⟨Rn.toArray⟩] x fun e w' => e = .returned (.int .i64 E1) ∧ Below x.heap.size x w')
            have HCC := Lib.hid hck
            clear hck hg
            go_wp2_with fail
            refine HCC.out.mono ?_
            rintro e x' ⟨rfl, hb⟩
            go_wp2_with fail
            exact hK Rc.dflt x' hb (fun _ _ _ _ => trivial)
          intro K hK; go_simp; refine hK _ ?_; clear hK K
          iterate 6 (refine Rc.rK rfl rfl ?_; intro K hK; apply Exists.intro; refine ⟨?_, ?_⟩; (focus (intro x hx;  go_simp; (first | (fail) | ((try go_bits); (try go_simp); (try rfl))))); go_simp; refine hK _ ?_; clear hK K)
          refine Rc.r_load rfl rfl _ _ rfl (.agg (bysA Ra)) (fun x hx => load_whole (Rp.row_le (Rc.undrew hx) HOB9.out) HAL.out) ?_; intro K hK; go_simp; refine hK _ ?_; clear hK K
          refine Rc.r_load rfl rfl _ _ rfl (.agg (bysA Rn)) (fun x hx => load_whole (Rp.row_le (Rc.undrew hx) HRB9.out) HNL.out) ?_; intro K hK; go_simp; refine hK _ ?_; clear hK K
          refine Rc.fK rfl rfl rfl rfl ?_ ?_
          · intro x Fs hx hle hg K hK
            have hbx : Below w.heap.size w x := HB9.out.trans ((Rc.undrew hx).mono HB9.out.size)
            have hck := (by rw [HF2.out]; exact checkC_any ((a : Int) + 1) b q2 qc2 Q2 Ra Rn x (HS.out.below hbx) (HQ9.out.below (Rc.undrew hx)) hQ2 HAL.out HNL.out hb63 : Calls Tryd.prog 36 #[.int .i64 ((a : Int) + 1), .int .i64 b, .slice q2 Q2.length qc2, .agg (bysA Ra), .agg (bysA Rn)] x fun e w' => e = .returned (.int .i64 E2) ∧ Below x.heap.size x w')
            have HCC := Lib.hid hck
            clear hck hg
            go_wp2_with fail
            refine HCC.out.mono ?_
            rintro e x' ⟨rfl, hb⟩
            go_wp2_with fail
            exact hK Rc.dflt x' hb (fun _ _ _ _ => trivial)
          intro K hK; go_simp; refine hK _ ?_; clear hK K
          iterate 4 (refine Rc.rK rfl rfl ?_; intro K hK; apply Exists.intro; refine ⟨?_, ?_⟩; (focus (intro x hx;  go_simp; (first | (fail) | ((try go_bits); (try go_simp); (try rfl))))); go_simp; refine hK _ ?_; clear hK K)
          refine Rc.fK rfl rfl rfl rfl ?_ ?_
          · intro x Fs hx hle hg K hK
            have ht := texts16_any q2 qc2 Q2 x (HQ9.out.below (Rc.undrew hx)) (by omega)
            have HTX := Lib.hid ht
            clear ht
            go_wp2_with fail
            refine HTX.out.mono ?_
            rintro e x' ⟨v, rfl, how, hb⟩
            obtain ⟨q', c', rfl⟩ := Ow_form how
            go_wp2_with fail
            exact hK ⟨q', c', undef⟩ x' hb (fun F y hF hy => (Rd.of_ow how).keeps hy (fun k hk => .inr (hF k (how.lt k hk).1 (how.lt k hk).2)))
          intro K hK; go_simp; refine hK _ ?_; clear hK K
          iterate 1 (refine Rc.rK rfl rfl ?_; intro K hK; apply Exists.intro; refine ⟨?_, ?_⟩; (focus (intro x hx;  go_simp; (first | (fail) | ((try go_bits); (try go_simp); (try rfl))))); go_simp; refine hK _ ?_; clear hK K)
          refine Rc.r_str rfl rfl 23 9 _ rfl 5 Tryd.underlying9 Tryd.underlying23 Tryd.underlying5 _ _ (Ra) rfl (fun x hx => Rp3.row (Rp.row_le (Rc.undrew hx) HOB9.out) HAL.out (by decide)) ?_; intro K hK; go_simp; refine hK _ ?_; clear hK K
          iterate 1 (refine Rc.rK rfl rfl ?_; intro K hK; apply Exists.intro; refine ⟨?_, ?_⟩; (focus (intro x hx;  go_simp; (first | (fail) | ((try go_bits); (try go_simp); (try rfl))))); go_simp; refine hK _ ?_; clear hK K)
          refine Rc.r_str rfl rfl 23 9 _ rfl 5 Tryd.underlying9 Tryd.underlying23 Tryd.underlying5 _ _ (Rn) rfl (fun x hx => Rp3.row (Rp.row_le (Rc.undrew hx) HRB9.out) HNL.out (by decide)) ?_; intro K hK; go_simp; refine hK _ ?_; clear hK K
          refine Rc.fK rfl rfl rfl rfl ?_ ?_
          · intro x Fs hx hle hg K hK
            have hbx : Below w.heap.size w x := HB9.out.trans ((Rc.undrew hx).mono HB9.out.size)
            have hck := (by rw [← HE2.out]; exact refcheckC_any ((a : Int) + 1) b Q2 (p 34).q (p 34).c Ra Rn x (by rw [HAL.out]; decide) hb63 HQN.out (HR.out.below hbx) hg.1 : Calls Tryd.prog 38 #[.int .i64 ((a : Int) + 1), .int .i64 b, .slice (p 34).q Q2.length (p 34).c, .string ⟨Ra.toArray⟩, .string ⟨Rn.toArray⟩] x fun e w' => e = .returned (.int .i64 E2) ∧ Below x.heap.size x w')
            have HCC := Lib.hid hck
            clear hck hg
            go_wp2_with fail
            refine HCC.out.mono ?_
            rintro e x' ⟨rfl, hb⟩
            go_wp2_with fail
            exact hK Rc.dflt x' hb (fun _ _ _ _ => trivial)
          intro K hK; go_simp; refine hK _ ?_; clear hK K
          iterate 2 (refine Rc.rK rfl rfl ?_; intro K hK; apply Exists.intro; refine ⟨?_, ?_⟩; (focus (intro x hx;  go_simp; (first | (fail) | ((try go_bits); (try go_simp); (try rfl))))); go_simp; refine hK _ ?_; clear hK K)
          refine Rc.done fun x Fs hx hle hg => ?_
          have HX : Hid (Below w.heap.size w x) := Lib.hid (HB9.out.trans ((Rc.undrew hx).mono HB9.out.size))
          clear hx hle hg cW
          go_wp2_with fail
          refine NoPanic.normal ?_
          go_wp2_with fail
          go_ret
          exact ⟨rfl, HX.out⟩
        ·
          have hqI : (0 : Int) < (QQ.length : Int) := by omega
          have hqN : 0 < QQ.length := by omega
          obtain ⟨gq, hgq⟩ : ∃ g, qq = some ⟨g, 0, none⟩ := by
            rcases HQ8.out.2.2 with ⟨_, h0⟩ | ⟨g, cap, cur, fz, hv, _⟩
            · omega
            · injection hv with h1; exact ⟨g, h1⟩
          subst hgq
          have HGQ : Hid (w3.heap.size ≤ gq ∧ gq < w4.heap.size) := Lib.hid (HSEQ.out gq rfl)
          clear hQ0
          go_wp2_with fail
          obtain ⟨m, hm⟩ : ∃ m, m = QQ.length / 2 := ⟨_, rfl⟩
          have hmO : m < QQ.length := by omega
          have hmI : (m : Int) < (QQ.length : Int) := by omega
          have hdv2 : (QQ.length : Int) / 2 = (m : Int) := by omega
          have hdv : (QQ.length : Int).tdiv 2 = (m : Int) := by rw [Int.tdiv_eq_ediv_of_nonneg (by omega)]; exact hdv2
          have hw : OwL (World.drew w8) w3.heap.size (.slice (some ⟨gq, 0, none⟩) QQ.length qc) QQ := HQ8.out
          obtain ⟨z, hz⟩ : ∃ z, z = bt (QQ.getD m []) kk := ⟨_, rfl⟩
          obtain ⟨Z, hZ⟩ : ∃ Z, Z = z ^^^ 1 := ⟨_, rfl⟩
          obtain ⟨cB, fB, hown⟩ := hw.setbyte hmO hkk Z
          rw [← hz] at cB
          have hxor : bits .xor .u8 (z.toNat : Int) (1 : Int) = (Z.toNat : Int) := by
            rw [hZ, UInt8.toNat_xor]
            exact u8_xor16 z 1
          have hgr := grown_setCell (World.drew w8) gq (m * 32 + kk) (.int .u8 (Z.toNat : Int))
          obtain ⟨wB, hwA⟩ : ∃ wX9, wX9 = World.drew (World.setCell w8 ⟨gq, m * 32 + kk, none⟩ (.int .u8 (Z.toNat : Int))) := ⟨_, rfl⟩
          have he : (World.drew w8).setCell ⟨gq, m * 32 + kk, none⟩ (.int .u8 (Z.toNat : Int)) = wB := by rw [hwA]; rfl
          rw [he] at hown hgr
          clear he
          obtain ⟨QS, hO2⟩ : ∃ O2, O2 = QQ.set m ((QQ.getD m []).set kk Z) := ⟨_, rfl⟩
          have hl2 : List.length QS = QQ.length := by rw [hO2, List.length_set]
          rw [← hO2, hl2] at hown
          have HOWNQ : Hid (OwL wB w3.heap.size (.slice (some ⟨gq, 0, none⟩) QQ.length qc) QS) := Lib.hid hown
          have HGRQ : Hid ((World.drew w8).grownBy wB (some gq)) := Lib.hid hgr
          have HL2Q : Hid (List.length QS = QQ.length) := Lib.hid hl2
          have HWA := Lib.hid hwA
          clear hw hz hZ hown hgr hO2 hl2 hwA hm
          refine Rp.pure [0, 1, 2, 3, 4, 5, 6, 9] [7, 8, 10, 11] (by kernel_rfl) (by kernel_rfl) ?_; simp only [Rp.pickN, Rp.nth]
          repeat (refine Rp.uK rfl ?_; intro K hK; apply Exists.intro; refine ⟨?_, ?_⟩; (focus (intro x; go_simp; (first | (fail) | ((try go_bits); (try go_simp); (try rfl))))); go_simp; refine hK _ ?_; clear hK K)
          refine Rp.uDone ?_
          go_wp2_with fail
          refine NoPanic.normal ?_
          rw [← HWA.out]
          clear cB fB hxor hdv hdv2 hmO hmI HWA
          have HRNB : Hid (wB.heap[rb]? = some (.cells (bysA Rn) 22 (0, 0))) := Lib.hid ((HGRQ.out.block rb (lt_of_heap HRN8.out) (fun e => by cases e; have := HZ.out; have := HGQ.out; omega)).trans HRN8.out)
          have HRBB : Hid (wB.heap[ob]? = some (.cells (bysA Ra) 22 (0, 0))) := Lib.hid ((HGRQ.out.block ob (lt_of_heap HRB8.out) (fun e => by cases e; have := HZ.out; have := HGQ.out; omega)).trans HRB8.out)
          have HOBB : Hid (Rd wB 1 (.slice qw b cw) b (strs N)) := Lib.hid (HO8.out.kpq (fun k hk => HGRQ.out.block k (Nat.lt_of_lt_of_le (HOB.out k hk) (by have := HZ8.out; exact this.2)) (fun e => by cases e; have := HOB.out gq hk; have := HGQ.out; have := HZ.out; omega)))
          have HBB : Hid (Below w.heap.size w wB) := Lib.hid ((Below.drew HB8.out).trans (below_of_grown HGRQ.out (by have := HZ.out; have := HZ8.out; have e : (World.drew w8).heap.size = (w8).heap.size := rfl; omega) (fun k hk => by cases hk; have := HGQ.out; have := HZ.out; omega)))
          have HPB : Hid (RdL wB (.slice pq PP.length pc) PP) := Lib.hid ⟨HP8.out.1, (Rd.of_ow HP8.out.2).kpq (fun k hk => HGRQ.out.block k (HP8.out.2.lt k hk).2 (fun e => by cases e; have := HSEP.out gq hk; have := HGQ.out; omega))⟩
          go_wp2_with fail
          obtain ⟨wF, hwF⟩ : ∃ wF, wF = wB := ⟨_, rfl⟩
          have HB9 : Hid (Below w.heap.size w wF) := Lib.hid (by rw [hwF]; exact HBB.out)
          have HO9 : Hid (Rd wF 1 (.slice qw b cw) b (strs N)) := Lib.hid (by rw [hwF]; exact HOBB.out)
          have HRB9 : Hid (wF.heap[rb]? = some (.cells (bysA Rn) 22 (0, 0))) := Lib.hid (by rw [hwF]; exact HRNB.out)
          have HOB9 : Hid (wF.heap[ob]? = some (.cells (bysA Ra) 22 (0, 0))) := Lib.hid (by rw [hwF]; exact HRBB.out)
          rw [← hwF]
          obtain ⟨P2, hP2⟩ : ∃ P2, P2 = PP := ⟨_, rfl⟩
          obtain ⟨p2, hp2⟩ : ∃ p2 : Option Addr, p2 = pq := ⟨_, rfl⟩
          obtain ⟨pc2, hpc2⟩ : ∃ pc2, pc2 = pc := ⟨_, rfl⟩
          have HP9 : Hid (RdL wF (.slice p2 P2.length pc2) P2) := Lib.hid (by rw [hP2, hp2, hpc2]; exact by rw [hwF]; exact HPB.out)
          have hP2l : P2.length ≤ 1000 := by rw [hP2]; (try (have h9 := HL2P.out; rw [h9])); omega
          rw [← hP2, ← hp2, ← hpc2]
          clear hP2 hp2 hpc2
          rw [← HL2Q.out]
          obtain ⟨Q2, hQ2e⟩ : ∃ Q2, Q2 = QS := ⟨_, rfl⟩
          obtain ⟨q2, hq2⟩ : ∃ q2 : Option Addr, q2 = some ⟨gq, 0, none⟩ := ⟨_, rfl⟩
          obtain ⟨qc2, hqc2⟩ : ∃ qc2, qc2 = qc := ⟨_, rfl⟩
          have HQ9 : Hid (RdL wF (.slice q2 Q2.length qc2) Q2) := Lib.hid (by rw [hQ2e, hq2, hqc2]; exact by rw [hwF, HL2Q.out]; have h9 := HOWNQ.out; rw [← HL2Q.out] at h9; have := h9.rd; rwa [HL2Q.out] at this)
          have hQ2 : Q2.length ≤ 1000 := by rw [hQ2e]; have := HL2Q.out; omega
          rw [← hQ2e, ← hq2, ← hqc2]
          clear hQ2e hq2 hqc2
          have HE1 : Hid (refchkI X a b P2 Rn = chkI X a b P2 Rn) := Lib.hid (chkI_same _ _ _ _ _)
          have HE2 : Hid (refchkC ((a : Int) + 1) b Q2 Ra Rn = chkC ((a : Int) + 1) b Q2 Ra Rn) := Lib.hid (chkC_same _ _ _ _ _)
          have HPN : Hid (∀ x ∈ P2, x.length ≤ 1000) := Lib.hid (fun x hx => by rw [HP9.out.1 x hx]; decide)
          have HQN : Hid (∀ x ∈ Q2, x.length ≤ 1000) := Lib.hid (fun x hx => by rw [HQ9.out.1 x hx]; decide)
          obtain ⟨E1, hE1⟩ : ∃ E1, E1 = chkI X a b P2 Rn := ⟨_, rfl⟩
          obtain ⟨E2, hE2⟩ : ∃ E2, E2 = chkC ((a : Int) + 1) b Q2 Ra Rn := ⟨_, rfl⟩
          rw [← hE1] at HE1
          rw [← hE2] at HE2
          have HF1 := Lib.hid hE1
          have HF2 := Lib.hid hE2
          obtain ⟨bw, ow, hqw, hbw, _, _, hcw2⟩ := Rd_lt HO9.out hb0
          subst hqw
          have cW : (wF).cell? ⟨bw, ow + a, none⟩ = some (.string ⟨X.toArray⟩) := by rw [HXX.out]; exact hcw2 a _ (strs_get (by have := HBN.out; omega))
          clear hE1 hE2 hcw2


          refine Rc.region ((wF).heap.size) 42 [Rc.F 4 (fun p => .slice p.q X.length p.c) (fun p _ y => Rd y 1 (.slice p.q X.length p.c) X.length (bys X)), Rc.G 9 [4] (fun _ => .int .i64 E1) (fun _ _ _ => True), Rc.F 17 (fun p => .slice p.q P2.length p.c) (fun p _ y => Rd y 1 (.slice p.q P2.length p.c) P2.length (strs P2)), Rc.G 20 [17] (fun _ => .int .i64 E1) (fun _ _ _ => True), Rc.F 29 (fun _ => .int .i64 E2) (fun _ _ _ => True), Rc.F 34 (fun p => .slice p.q Q2.length p.c) (fun p _ y => Rd y 1 (.slice p.q Q2.length p.c) Q2.length (strs Q2)), Rc.G 39 [34] (fun _ => .int .i64 E2) (fun _ _ _ => True)] [] (by kernel_rfl) (Nat.le_refl _) (by kernel_rfl) ?_; intro p; simp only [List.take, List.drop]
          iterate 3 (refine Rc.rK rfl rfl ?_; intro K hK; apply Exists.intro; refine ⟨?_, ?_⟩; (focus (intro x hx;  go_simp; (first | (fail) | ((try go_bits); (try go_simp); (try rfl))))); go_simp; refine hK _ ?_; clear hK K)
          iterate 1 (refine Rc.rK rfl rfl ?_; intro K hK; apply Exists.intro; refine ⟨?_, ?_⟩; (focus (intro x hx; have d0 := Rc.cell_le hx hbw cW; go_simp; (first | (fail) | ((try go_bits); (try go_simp); (try rfl))))); go_simp; refine hK _ ?_; clear hK K)
          refine Rc.fK rfl rfl rfl rfl ?_ ?_
          · intro x Fs hx hle hg K hK
            refine conv_bytes rfl 9 23 _ rfl 5 Tryd.underlying9 Tryd.underlying23 Tryd.underlying5 ⟨X.toArray⟩ rfl x.heap.size (Nat.le_refl _) (by show X.length ≤ maxLen; have := HXL.out; unfold maxLen; omega) ?_
            intro v x' how hb
            have how : Ow x' x.heap.size 5 1 v X.length (bys X) := how
            obtain ⟨q', c', rfl⟩ := Ow_form how
            go_wp2_with fail
            exact hK ⟨q', c', undef⟩ x' hb (fun F y hF hy => (Rd.of_ow how).keeps hy (fun k hk => .inr (hF k (how.lt k hk).1 (how.lt k hk).2)))
          intro K hK; go_simp; refine hK _ ?_; clear hK K
          iterate 3 (refine Rc.rK rfl rfl ?_; intro K hK; apply Exists.intro; refine ⟨?_, ?_⟩; (focus (intro x hx;  go_simp; (first | (fail) | ((try go_bits); (try go_simp); (try rfl))))); go_simp; refine hK _ ?_; clear hK K)
          refine Rc.r_load rfl rfl _ _ rfl (.agg (bysA Rn)) (fun x hx => load_whole (Rp.row_le (Rc.undrew hx) HRB9.out) HNL.out) ?_; intro K hK; go_simp; refine hK _ ?_; clear hK K
          refine Rc.fK rfl rfl rfl rfl ?_ ?_
          · intro x Fs hx hle hg K hK
            have hbx : Below w.heap.size w x := HB9.out.trans ((Rc.undrew hx).mono HB9.out.size)
            have hck := (by rw [HF1.out]; exact checkI_any (p 4).q (p 4).c X a b p2 pc2 P2 Rn x (HS.out.below hbx) hg.1 (by have := HXL.out; omega) (HP9.out.below (Rc.undrew hx)) HNL.out hb63 : Calls Tryd.prog 35 #[.slice (p 4).q X.length (p 4).c, .int .i64 a, .int .i64 b, .slice p2 P2.length pc2, .agg (bysA Rn)] x fun e w' => e = .returned (.int .i64 E1) ∧ Below x.heap.size x w')
            have HCC := Lib.hid hck
            clear hck hg
            go_wp2_with fail
            refine HCC.out.mono ?_
            rintro e x' ⟨rfl, hb⟩
            go_wp2_with fail
            exact hK Rc.dflt x' hb (fun _ _ _ _ => trivial)
          intro K hK; go_simp; refine hK _ ?_; clear hK K
          iterate 3 (refine Rc.rK rfl rfl ?_; intro K hK; apply Exists.intro; refine ⟨?_, ?_⟩; (focus (intro x hx;  go_simp; (first | (fail) | ((try go_bits); (try go_simp); (try rfl))))); go_simp; refine hK _ ?_; clear hK K)
          iterate 1 (refine Rc.rK rfl rfl ?_; intro K hK; apply Exists.intro; refine ⟨?_, ?_⟩; (focus (intro x hx; have d0 := Rc.cell_le hx hbw cW; go_simp; (first | (fail) | ((try go_bits); (try go_simp); (try rfl))))); go_simp; refine hK _ ?_; clear hK K)
          iterate 3 (refine Rc.rK rfl rfl ?_; intro K hK; apply Exists.intro; refine ⟨?_, ?_⟩; (focus (intro x hx;  go_simp; (first | (fail) | ((try go_bits); (try go_simp); (try rfl))))); go_simp; refine hK _ ?_; clear hK K)
          refine Rc.fK rfl rfl rfl rfl ?_ ?_
          · intro x Fs hx hle hg K hK
            have ht := texts16_any p2 pc2 P2 x (HP9.out.below (Rc.undrew hx)) (by omega)
            have HTX := Lib.hid ht
            clear ht
            go_wp2_with fail
            refine HTX.out.mono ?_
            rintro e x' ⟨v, rfl, how, hb⟩
            obtain ⟨q', c', rfl⟩ := Ow_form how
            go_wp2_with fail
            exact hK ⟨q', c', undef⟩ x' hb (fun F y hF hy => (Rd.of_ow how).keeps hy (fun k hk => .inr (hF k (how.lt k hk).1 (how.lt k hk).2)))
          intro K hK; go_simp; refine hK _ ?_; clear hK K
          iterate 1 (refine Rc.rK rfl rfl ?_; intro K hK; apply Exists.intro; refine ⟨?_, ?_⟩; (focus (intro x hx;  go_simp; (first | (fail) | ((try go_bits); (try go_simp); (try rfl))))); go_simp; refine hK _ ?_; clear hK K)
          refine Rc.r_str rfl rfl 23 9 _ rfl 5 Tryd.underlying9 Tryd.underlying23 Tryd.underlying5 _ _ (Rn) rfl (fun x hx => Rp3.row (Rp.row_le (Rc.undrew hx) HRB9.out) HNL.out (by decide)) ?_; intro K hK; go_simp; refine hK _ ?_; clear hK K
          refine Rc.fK rfl rfl rfl rfl ?_ ?_
          · intro x Fs hx hle hg K hK
            have hbx : Below w.heap.size w x := HB9.out.trans ((Rc.undrew hx).mono HB9.out.size)
            have hck := (by rw [← HE1.out]; exact refcheckI_any X a b P2 (p 17).q (p 17).c Rn x HXL.out hb63 HPN.out (HR.out.below hbx) hg.1 : Calls Tryd.prog 37 #[.string ⟨X.toArray⟩, .int .i64 a, .int .i64 b, .slice (p 17).q P2.length (p 17).c, .string ⟨Rn.toArray⟩] x fun e w' => e = .returned (.int .i64 E1) ∧ Below x.heap.size x w')
            have HCC := Lib.hid hck
            clear hck hg
            go_wp2_with fail
            refine HCC.out.mono ?_
            rintro e x' ⟨rfl, hb⟩
            go_wp2_with fail
            exact hK Rc.dflt x' hb (fun _ _ _ _ => trivial)
          intro K hK; go_simp; refine hK _ ?_; clear hK K
          iterate 6 (refine Rc.rK rfl rfl ?_; intro K hK; apply Exists.intro; refine ⟨?_, ?_⟩; (focus (intro x hx;  go_simp; (first | (fail) | ((try go_bits); (try go_simp); (try rfl))))); go_simp; refine hK _ ?_; clear hK K)
          refine Rc.r_load rfl rfl _ _ rfl (.agg (bysA Ra)) (fun x hx => load_whole (Rp.row_le (Rc.undrew hx) HOB9.out) HAL.out) ?_; intro K hK; go_simp; refine hK _ ?_; clear hK K
          refine Rc.r_load rfl rfl _ _ rfl (.agg (bysA Rn)) (fun x hx => load_whole (Rp.row_le (Rc.undrew hx) HRB9.out) HNL.out) ?_; intro K hK; go_simp; refine hK _ ?_; clear hK K
          refine Rc.fK rfl rfl rfl rfl ?_ ?_
          · intro x Fs hx hle hg K hK
            have hbx : Below w.heap.size w x := HB9.out.trans ((Rc.undrew hx).mono HB9.out.size)
            have hck := (by rw [HF2.out]; exact checkC_any ((a : Int) + 1) b q2 qc2 Q2 Ra Rn x (HS.out.below hbx) (HQ9.out.below (Rc.undrew hx)) hQ2 HAL.out HNL.out hb63 : Calls Tryd.prog 36 #[.int .i64 ((a : Int) + 1), .int .i64 b, .slice q2 Q2.length qc2, .agg (bysA Ra), .agg (bysA Rn)] x fun e w' => e = .returned (.int .i64 E2) ∧ Below x.heap.size x w')
            have HCC := Lib.hid hck
            clear hck hg
            go_wp2_with fail
            refine HCC.out.mono ?_
            rintro e x' ⟨rfl, hb⟩
            go_wp2_with fail
            exact hK Rc.dflt x' hb (fun _ _ _ _ => trivial)
          intro K hK; go_simp; refine hK _ ?_; clear hK K
          iterate 4 (refine Rc.rK rfl rfl ?_; intro K hK; apply Exists.intro; refine ⟨?_, ?_⟩; (focus (intro x hx;  go_simp; (first | (fail) | ((try go_bits); (try go_simp); (try rfl))))); go_simp; refine hK _ ?_; clear hK K)
          refine Rc.fK rfl rfl rfl rfl ?_ ?_
          · intro x Fs hx hle hg K hK
            have ht := texts16_any q2 qc2 Q2 x (HQ9.out.below (Rc.undrew hx)) (by omega)
            have HTX := Lib.hid ht
            clear ht
            go_wp2_with fail
            refine HTX.out.mono ?_
            rintro e x' ⟨v, rfl, how, hb⟩
            obtain ⟨q', c', rfl⟩ := Ow_form how
            go_wp2_with fail
            exact hK ⟨q', c', undef⟩ x' hb (fun F y hF hy => (Rd.of_ow how).keeps hy (fun k hk => .inr (hF k (how.lt k hk).1 (how.lt k hk).2)))
          intro K hK; go_simp; refine hK _ ?_; clear hK K
          iterate 1 (refine Rc.rK rfl rfl ?_; intro K hK; apply Exists.intro; refine ⟨?_, ?_⟩; (focus (intro x hx;  go_simp; (first | (fail) | ((try go_bits); (try go_simp); (try rfl))))); go_simp; refine hK _ ?_; clear hK K)
          refine Rc.r_str rfl rfl 23 9 _ rfl 5 Tryd.underlying9 Tryd.underlying23 Tryd.underlying5 _ _ (Ra) rfl (fun x hx => Rp3.row (Rp.row_le (Rc.undrew hx) HOB9.out) HAL.out (by decide)) ?_; intro K hK; go_simp; refine hK _ ?_; clear hK K
          iterate 1 (refine Rc.rK rfl rfl ?_; intro K hK; apply Exists.intro; refine ⟨?_, ?_⟩; (focus (intro x hx;  go_simp; (first | (fail) | ((try go_bits); (try go_simp); (try rfl))))); go_simp; refine hK _ ?_; clear hK K)
          refine Rc.r_str rfl rfl 23 9 _ rfl 5 Tryd.underlying9 Tryd.underlying23 Tryd.underlying5 _ _ (Rn) rfl (fun x hx => Rp3.row (Rp.row_le (Rc.undrew hx) HRB9.out) HNL.out (by decide)) ?_; intro K hK; go_simp; refine hK _ ?_; clear hK K
          refine Rc.fK rfl rfl rfl rfl ?_ ?_
          · intro x Fs hx hle hg K hK
            have hbx : Below w.heap.size w x := HB9.out.trans ((Rc.undrew hx).mono HB9.out.size)
            have hck := (by rw [← HE2.out]; exact refcheckC_any ((a : Int) + 1) b Q2 (p 34).q (p 34).c Ra Rn x (by rw [HAL.out]; decide) hb63 HQN.out (HR.out.below hbx) hg.1 : Calls Tryd.prog 38 #[.int .i64 ((a : Int) + 1), .int .i64 b, .slice (p 34).q Q2.length (p 34).c, .string ⟨Ra.toArray⟩, .string ⟨Rn.toArray⟩] x fun e w' => e = .returned (.int .i64 E2) ∧ Below x.heap.size x w')
            have HCC := Lib.hid hck
            clear hck hg
            go_wp2_with fail
            refine HCC.out.mono ?_
            rintro e x' ⟨rfl, hb⟩
            go_wp2_with fail
            exact hK Rc.dflt x' hb (fun _ _ _ _ => trivial)
          intro K hK; go_simp; refine hK _ ?_; clear hK K
          iterate 2 (refine Rc.rK rfl rfl ?_; intro K hK; apply Exists.intro; refine ⟨?_, ?_⟩; (focus (intro x hx;  go_simp; (first | (fail) | ((try go_bits); (try go_simp); (try rfl))))); go_simp; refine hK _ ?_; clear hK K)
          refine Rc.done fun x Fs hx hle hg => ?_
          have HX : Hid (Below w.heap.size w x) := Lib.hid (HB9.out.trans ((Rc.undrew hx).mono HB9.out.size))
          clear hx hle hg cW
          go_wp2_with fail
          refine NoPanic.normal ?_
          go_wp2_with fail
          go_ret
          exact ⟨rfl, HX.out⟩
      ·
        have hpI : (0 : Int) < (PP.length : Int) := by omega
        have hpN : 0 < PP.length := by omega
        have hp1 : 1 ≤ PP.length := by omega
        obtain ⟨gp, hgp⟩ : ∃ g, pq = some ⟨g, 0, none⟩ := by
          rcases HP8.out.2.2 with ⟨_, h0⟩ | ⟨g, cap, cur, fz, hv, _⟩
          · omega
          · injection hv with h1; exact ⟨g, h1⟩
        subst hgp
        clear hP0
        go_wp2_with fail
        obtain ⟨m, hm⟩ : ∃ m, m = PP.length / 2 := ⟨_, rfl⟩
        have hmO : m < PP.length := by omega
        have hmI : (m : Int) < (PP.length : Int) := by omega
        have hdv2 : (PP.length : Int) / 2 = (m : Int) := by omega
        have hdv : (PP.length : Int).tdiv 2 = (m : Int) := by rw [Int.tdiv_eq_ediv_of_nonneg (by omega)]; exact hdv2
        have hw : OwL (World.drew w8) w2.heap.size (.slice (some ⟨gp, 0, none⟩) PP.length pc) PP := HP8.out
        obtain ⟨z, hz⟩ : ∃ z, z = bt (PP.getD m []) kk := ⟨_, rfl⟩
        obtain ⟨Z, hZ⟩ : ∃ Z, Z = z ^^^ 1 := ⟨_, rfl⟩
        obtain ⟨cB, fB, hown⟩ := hw.setbyte hmO hkk Z
        rw [← hz] at cB
        have hxor : bits .xor .u8 (z.toNat : Int) (1 : Int) = (Z.toNat : Int) := by
          rw [hZ, UInt8.toNat_xor]
          exact u8_xor16 z 1
        have hgr := grown_setCell (World.drew w8) gp (m * 32 + kk) (.int .u8 (Z.toNat : Int))
        obtain ⟨wA, hwA⟩ : ∃ wX9, wX9 = World.drew (World.setCell w8 ⟨gp, m * 32 + kk, none⟩ (.int .u8 (Z.toNat : Int))) := ⟨_, rfl⟩
        have he : (World.drew w8).setCell ⟨gp, m * 32 + kk, none⟩ (.int .u8 (Z.toNat : Int)) = wA := by rw [hwA]; rfl
        rw [he] at hown hgr
        clear he
        obtain ⟨PS, hO2⟩ : ∃ O2, O2 = PP.set m ((PP.getD m []).set kk Z) := ⟨_, rfl⟩
        have hl2 : List.length PS = PP.length := by rw [hO2, List.length_set]
        rw [← hO2, hl2] at hown
        have HOWNP : Hid (OwL wA w2.heap.size (.slice (some ⟨gp, 0, none⟩) PP.length pc) PS) := Lib.hid hown
        have HGRP : Hid ((World.drew w8).grownBy wA (some gp)) := Lib.hid hgr
        have HL2P : Hid (List.length PS = PP.length) := Lib.hid hl2
        have HWA := Lib.hid hwA
        clear hw hz hZ hown hgr hO2 hl2 hwA hm
        refine Rp.pure [0, 1, 2, 3, 4, 5, 6, 9] [7, 8, 10, 11] (by kernel_rfl) (by kernel_rfl) ?_; simp only [Rp.pickN, Rp.nth]
        repeat (refine Rp.uK rfl ?_; intro K hK; apply Exists.intro; refine ⟨?_, ?_⟩; (focus (intro x; go_simp; (first | (fail) | ((try go_bits); (try go_simp); (try rfl))))); go_simp; refine hK _ ?_; clear hK K)
        refine Rp.uDone ?_
        go_wp2_with fail
        refine NoPanic.normal ?_
        rw [← HWA.out]
        clear cB fB hxor hdv hdv2 hmO hmI HWA
        have HGP : Hid (w2.heap.size ≤ gp ∧ gp < w3.heap.size) := Lib.hid (HSEP.out gp rfl)
        have HQA : Hid (OwL wA w3.heap.size (.slice qq QQ.length qc) QQ) := Lib.hid ⟨HQ8.out.1, HQ8.out.2.kpq (fun k hk => HGRP.out.block k (HQ8.out.2.lt k hk).2 (fun e => by cases e; have := HSEQ.out gp hk; have := HGP.out; omega))⟩
        have HRNA : Hid (wA.heap[rb]? = some (.cells (bysA Rn) 22 (0, 0))) := Lib.hid ((HGRP.out.block rb (lt_of_heap HRN8.out) (fun e => by cases e; have := HZ.out; have := HGP.out; omega)).trans HRN8.out)
        have HRBA : Hid (wA.heap[ob]? = some (.cells (bysA Ra) 22 (0, 0))) := Lib.hid ((HGRP.out.block ob (lt_of_heap HRB8.out) (fun e => by cases e; have := HZ.out; have := HGP.out; omega)).trans HRB8.out)
        have HOA : Hid (Rd wA 1 (.slice qw b cw) b (strs N)) := Lib.hid (HO8.out.kpq (fun k hk => HGRP.out.block k (Nat.lt_of_lt_of_le (HOB.out k hk) (by have := HZ8.out; exact this.2)) (fun e => by cases e; have := HOB.out gp hk; have := HGP.out; omega)))
        have HBA : Hid (Below w.heap.size w wA) := Lib.hid ((Below.drew HB8.out).trans (below_of_grown HGRP.out (by have := HZ.out; have := HZ8.out; have e : (World.drew w8).heap.size = w8.heap.size := rfl; omega) (fun k hk => by cases hk; have := HGP.out; have := HZ.out; omega)))
        have HZA : Hid (w3.heap.size ≤ wA.heap.size ∧ w2.heap.size ≤ wA.heap.size) := Lib.hid (by have h1 := HZ8.out; have h2 := HGRP.out.size; have e : (World.drew w8).heap.size = w8.heap.size := rfl; omega)
        have HQOA : Hid (∀ k, (Value.slice qq QQ.length qc).ownBlock = some k → k < wA.heap.size) := Lib.hid (fun k hk => (HQA.out.2.lt k hk).2)
        by_cases hQ0 : QQ.length = 0
        ·
          have hqI : ¬ (0 : Int) < (QQ.length : Int) := by omega
          have hqN : ¬ 0 < QQ.length := by omega
          clear hQ0
          go_wp2_with fail
          obtain ⟨wF, hwF⟩ : ∃ wF, wF = wA := ⟨_, rfl⟩
          have HB9 : Hid (Below w.heap.size w wF) := Lib.hid (by rw [hwF]; exact HBA.out)
          have HO9 : Hid (Rd wF 1 (.slice qw b cw) b (strs N)) := Lib.hid (by rw [hwF]; exact HOA.out)
          have HRB9 : Hid (wF.heap[rb]? = some (.cells (bysA Rn) 22 (0, 0))) := Lib.hid (by rw [hwF]; exact HRNA.out)
          have HOB9 : Hid (wF.heap[ob]? = some (.cells (bysA Ra) 22 (0, 0))) := Lib.hid (by rw [hwF]; exact HRBA.out)
          rw [← hwF]
          rw [← HL2P.out]
          obtain ⟨P2, hP2⟩ : ∃ P2, P2 = PS := ⟨_, rfl⟩
          obtain ⟨p2, hp2⟩ : ∃ p2 : Option Addr, p2 = some ⟨gp, 0, none⟩ := ⟨_, rfl⟩
          obtain ⟨pc2, hpc2⟩ : ∃ pc2, pc2 = pc := ⟨_, rfl⟩
          have HP9 : Hid (RdL wF (.slice p2 P2.length pc2) P2) := Lib.hid (by rw [hP2, hp2, hpc2]; exact by rw [hwF, HL2P.out]; have h9 := HOWNP.out; rw [← HL2P.out] at h9; have := h9.rd; rwa [HL2P.out] at this)
          have hP2l : P2.length ≤ 1000 := by rw [hP2]; (try (have h9 := HL2P.out; rw [h9])); omega
          rw [← hP2, ← hp2, ← hpc2]
          clear hP2 hp2 hpc2
          obtain ⟨Q2, hQ2e⟩ : ∃ Q2, Q2 = QQ := ⟨_, rfl⟩
          obtain ⟨q2, hq2⟩ : ∃ q2 : Option Addr, q2 = qq := ⟨_, rfl⟩
          obtain ⟨qc2, hqc2⟩ : ∃ qc2, qc2 = qc := ⟨_, rfl⟩
          have HQ9 : Hid (RdL wF (.slice q2 Q2.length qc2) Q2) := Lib.hid (by rw [hQ2e, hq2, hqc2]; exact by rw [hwF]; exact HQA.out.rd)
          have hQ2 : Q2.length ≤ 1000 := by rw [hQ2e]; omega
          rw [← hQ2e, ← hq2, ← hqc2]
          clear hQ2e hq2 hqc2
          have HE1 : Hid (refchkI X a b P2 Rn = chkI X a b P2 Rn) := Lib.hid (chkI_same _ _ _ _ _)
          have HE2 : Hid (refchkC ((a : Int) + 1) b Q2 Ra Rn = chkC ((a : Int) + 1) b Q2 Ra Rn) := Lib.hid (chkC_same _ _ _ _ _)
          have HPN : Hid (∀ x ∈ P2, x.length ≤ 1000) := Lib.hid (fun x hx => by rw [HP9.out.1 x hx]; decide)
          have HQN : Hid (∀ x ∈ Q2, x.length ≤ 1000) := Lib.hid (fun x hx => by rw [HQ9.out.1 x hx]; decide)
          obtain ⟨E1, hE1⟩ : ∃ E1, E1 = chkI X a b P2 Rn := ⟨_, rfl⟩
          obtain ⟨E2, hE2⟩ : ∃ E2, E2 = chkC ((a : Int) + 1) b Q2 Ra Rn := ⟨_, rfl⟩
          rw [← hE1] at HE1
          rw [← hE2] at HE2
          have HF1 := Lib.hid hE1
          have HF2 := Lib.hid hE2
          obtain ⟨bw, ow, hqw, hbw, _, _, hcw2⟩ := Rd_lt HO9.out hb0
          subst hqw
          have cW : (wF).cell? ⟨bw, ow + a, none⟩ = some (.string ⟨X.toArray⟩) := by rw [HXX.out]; exact hcw2 a _ (strs_get (by have := HBN.out; omega))
          clear hE1 hE2 hcw2


          refine Rc.region ((wF).heap.size) 42 [Rc.F 4 (fun p => .slice p.q X.length p.c) (fun p _ y => Rd y 1 (.slice p.q X.length p.c) X.length (bys X)), Rc.G 9 [4] (fun _ => .int .i64 E1) (fun _ _ _ => True), Rc.F 17 (fun p => .slice p.q P2.length p.c) (fun p _ y => Rd y 1 (.slice p.q P2.length p.c) P2.length (strs P2)), Rc.G 20 [17] (fun _ => .int .i64 E1) (fun _ _ _ => True), Rc.F 29 (fun _ => .int .i64 E2) (fun _ _ _ => True), Rc.F 34 (fun p => .slice p.q Q2.length p.c) (fun p _ y => Rd y 1 (.slice p.q Q2.length p.c) Q2.length (strs Q2)), Rc.G 39 [34] (fun _ => .int .i64 E2) (fun _ _ _ => True)] [] (by kernel_rfl) (Nat.le_refl _) (by kernel_rfl) ?_; intro p; simp only [List.take, List.drop]
          iterate 3 (refine Rc.rK rfl rfl ?_; intro K hK; apply Exists.intro; refine ⟨?_, ?_⟩; (focus (intro x hx;  go_simp; (first | (fail) | ((try go_bits); (try go_simp); (try rfl))))); go_simp; refine hK _ ?_; clear hK K)
          iterate 1 (refine Rc.rK rfl rfl ?_; intro K hK; apply Exists.intro; refine ⟨?_, ?_⟩; (focus (intro x hx; have d0 := Rc.cell_le hx hbw cW; go_simp; (first | (fail) | ((try go_bits); (try go_simp); (try rfl))))); go_simp; refine hK _ ?_; clear hK K)
          refine Rc.fK rfl rfl rfl rfl ?_ ?_
          · intro x Fs hx hle hg K hK
            refine conv_bytes rfl 9 23 _ rfl 5 Tryd.underlying9 Tryd.underlying23 Tryd.underlying5 ⟨X.toArray⟩ rfl x.heap.size (Nat.le_refl _) (by show X.length ≤ maxLen; have := HXL.out; unfold maxLen; omega) ?_
            intro v x' how hb
            have how : Ow x' x.heap.size 5 1 v X.length (bys X) := how
            obtain ⟨q', c', rfl⟩ := Ow_form how
            go_wp2_with fail
            exact hK ⟨q', c', undef⟩ x' hb (fun F y hF hy => (Rd.of_ow how).keeps hy (fun k hk => .inr (hF k (how.lt k hk).1 (how.lt k hk).2)))
          intro K hK; go_simp; refine hK _ ?_; clear hK K
          iterate 3 (refine Rc.rK rfl rfl ?_; intro K hK; apply Exists.intro; refine ⟨?_, ?_⟩; (focus (intro x hx;  go_simp; (first | (fail) | ((try go_bits); (try go_simp); (try rfl))))); go_simp; refine hK _ ?_; clear hK K)
          refine Rc.r_load rfl rfl _ _ rfl (.agg (bysA Rn)) (fun x hx => load_whole (Rp.row_le (Rc.undrew hx) HRB9.out) HNL.out) ?_; intro K hK; go_simp; refine hK _ ?_; clear hK K
          refine Rc.fK rfl rfl rfl rfl ?_ ?_
          · intro x Fs hx hle hg K hK
            have hbx : Below w.heap.size w x := HB9.out.trans ((Rc.undrew hx).mono HB9.out.size)
            have hck := (by rw [HF1.out]; exact checkI_any (p 4).q (p 4).c X a b p2 pc2 P2 Rn x (HS.out.below hbx) hg.1 (by have := HXL.out; omega) (HP9.out.below (Rc.undrew hx)) HNL.out hb63 : Calls Tryd.prog 35 #[.slice (p 4).q X.length (p 4).c, .int .i64 a, .int .i64 b, .slice p2 P2.length pc2, .agg (bysA Rn)] x fun e w' => e = .returned (.int .i64 E1) ∧ Below x.heap.size x w')
            have HCC := Lib.hid hck
            clear hck hg
            go_wp2_with fail
            refine HCC.out.mono ?_
            rintro e x' ⟨rfl, hb⟩
            go_wp2_with fail
            exact hK Rc.dflt x' hb (fun _ _ _ _ => trivial)
          intro K hK; go_simp; refine hK _ ?_; clear hK K
          iterate 3 (refine Rc.rK rfl rfl ?_; intro K hK; apply Exists.intro; refine ⟨?_, ?_⟩; (focus (intro x hx;  go_simp; (first | (fail) | ((try go_bits); (try go_simp); (try rfl))))); go_simp; refine hK _ ?_; clear hK K)
          iterate 1 (refine Rc.rK rfl rfl ?_; intro K hK; apply Exists.intro; refine ⟨?_, ?_⟩; (focus (intro x hx; have d0 := Rc.cell_le hx hbw cW; go_simp; (first | (fail) | ((try go_bits); (try go_simp); (try rfl))))); go_simp; refine hK _ ?_; clear hK K)
          iterate 3 (refine Rc.rK rfl rfl ?_; intro K hK; apply Exists.intro; refine ⟨?_, ?_⟩; (focus (intro x hx;  go_simp; (first | (fail) | ((try go_bits); (try go_simp); (try rfl))))); go_simp; refine hK _ ?_; clear hK K)
          refine Rc.fK rfl rfl rfl rfl ?_ ?_
          · intro x Fs hx hle hg K hK
            have ht := texts16_any p2 pc2 P2 x (HP9.out.below (Rc.undrew hx)) (by omega)
            have HTX := Lib.hid ht
            clear ht
            go_wp2_with fail
            refine HTX.out.mono ?_
            rintro e x' ⟨v, rfl, how, hb⟩
            obtain ⟨q', c', rfl⟩ := Ow_form how
            go_wp2_with fail
            exact hK ⟨q', c', undef⟩ x' hb (fun F y hF hy => (Rd.of_ow how).keeps hy (fun k hk => .inr (hF k (how.lt k hk).1 (how.lt k hk).2)))
          intro K hK; go_simp; refine hK _ ?_; clear hK K
          iterate 1 (refine Rc.rK rfl rfl ?_; intro K hK; apply Exists.intro; refine ⟨?_, ?_⟩; (focus (intro x hx;  go_simp; (first | (fail) | ((try go_bits); (try go_simp); (try rfl))))); go_simp; refine hK _ ?_; clear hK K)
          refine Rc.r_str rfl rfl 23 9 _ rfl 5 Tryd.underlying9 Tryd.underlying23 Tryd.underlying5 _ _ (Rn) rfl (fun x hx => Rp3.row (Rp.row_le (Rc.undrew hx) HRB9.out) HNL.out (by decide)) ?_; intro K hK; go_simp; refine hK _ ?_; clear hK K
          refine Rc.fK rfl rfl rfl rfl ?_ ?_
          · intro x Fs hx hle hg K hK
            have hbx : Below w.heap.size w x := HB9.out.trans ((Rc.undrew hx).mono HB9.out.size)
            have hck := (by rw [← HE1.out]; exact refcheckI_any X a b P2 (p 17).q (p 17).c Rn x HXL.out hb63 HPN.out (HR.out.below hbx) hg.1 : Calls Tryd.prog 37 #[.string ⟨X.toArray⟩, .int .i64 a, .int .i64 b, .slice (p 17).q P2.length (p 17).c, .string ⟨Rn.toArray⟩] x fun e w' => e = .returned (.int .i64 E1) ∧ Below x.heap.size x w')
            have HCC := Lib.hid hck
            clear hck hg
            go_wp2_with fail
            refine HCC.out.mono ?_
            rintro e x' ⟨rfl, hb⟩
            go_wp2_with fail
            exact hK Rc.dflt x' hb (fun _ _ _ _ => trivial)
          intro K hK; go_simp; refine hK _ ?_; clear hK K
          iterate 6 (refine Rc.rK rfl rfl ?_; intro K hK; apply Exists.intro; refine ⟨?_, ?_⟩; (focus (intro x hx;  go_simp; (first | (fail) | ((try go_bits); (try go_simp); (try rfl))))); go_simp; refine hK _ ?_; clear hK K)
          refine Rc.r_load rfl rfl _ _ rfl (.agg (bysA Ra)) (fun x hx => load_whole (Rp.row_le (Rc.undrew hx) HOB9.out) HAL.out) ?_; intro K hK; go_simp; refine hK _ ?_; clear hK K
          refine Rc.r_load rfl rfl _ _ rfl (.agg (bysA Rn)) (fun x hx => load_whole (Rp.row_le (Rc.undrew hx) HRB9.out) HNL.out) ?_; intro K hK; go_simp; refine hK _ ?_; clear hK K
          refine Rc.fK rfl rfl rfl rfl ?_ ?_
          · intro x Fs hx hle hg K hK
            have hbx : Below w.heap.size w x := HB9.out.trans ((Rc.undrew hx).mono HB9.out.size)
            have hck := (by rw [HF2.out]; exact checkC_any ((a : Int) + 1) b q2 qc2 Q2 Ra Rn x (HS.out.below hbx) (HQ9.out.below (Rc.undrew hx)) hQ2 HAL.out HNL.out hb63 : Calls Tryd.prog 36 #[.int .i64 ((a : Int) + 1), .int .i64 b, .slice q2 Q2.length qc2, .agg (bysA Ra), .agg (bysA Rn)] x fun e w' => e = .returned (.int .i64 E2) ∧ Below x.heap.size x w')
            have HCC := Lib.hid hck
            clear hck hg
            go_wp2_with fail
            refine HCC.out.mono ?_
            rintro e x' ⟨rfl, hb⟩
            go_wp2_with fail
            exact hK Rc.dflt x' hb (fun _ _ _ _ => trivial)
          intro K hK; go_simp; refine hK _ ?_; clear hK K
          iterate 4 (refine Rc.rK rfl rfl ?_; intro K hK; apply Exists.intro; refine ⟨?_, ?_⟩; (focus (intro x hx;  go_simp; (first | (fail) | ((try go_bits); (try go_simp); (try rfl))))); go_simp; refine hK _ ?_; clear hK K)
          refine Rc.fK rfl rfl rfl rfl ?_ ?_
          · intro x Fs hx hle hg K hK
            have ht := texts16_any q2 qc2 Q2 x (HQ9.out.below (Rc.undrew hx)) (by omega)
            have HTX := Lib.hid ht
            clear ht
            go_wp2_with fail
            refine HTX.out.mono ?_
            rintro e x' ⟨v, rfl, how, hb⟩
            obtain ⟨q', c', rfl⟩ := Ow_form how
            go_wp2_with fail
            exact hK ⟨q', c', undef⟩ x' hb (fun F y hF hy => (Rd.of_ow how).keeps hy (fun k hk => .inr (hF k (how.lt k hk).1 (how.lt k hk).2)))
          intro K hK; go_simp; refine hK _ ?_; clear hK K
          iterate 1 (refine Rc.rK rfl rfl ?_; intro K hK; apply Exists.intro; refine ⟨?_, ?_⟩; (focus (intro x hx;  go_simp; (first | (fail) | ((try go_bits); (try go_simp); (try rfl))))); go_simp; refine hK _ ?_; clear hK K)
          refine Rc.r_str rfl rfl 23 9 _ rfl 5 Tryd.underlying9 Tryd.underlying23 Tryd.underlying5 _ _ (Ra) rfl (fun x hx => Rp3.row (Rp.row_le (Rc.undrew hx) HOB9.out) HAL.out (by decide)) ?_; intro K hK; go_simp; refine hK _ ?_; clear hK K
          iterate 1 (refine Rc.rK rfl rfl ?_; intro K hK; apply Exists.intro; refine ⟨?_, ?_⟩; (focus (intro x hx;  go_simp; (first | (fail) | ((try go_bits); (try go_simp); (try rfl))))); go_simp; refine hK _ ?_; clear hK K)
          refine Rc.r_str rfl rfl 23 9 _ rfl 5 Tryd.underlying9 Tryd.underlying23 Tryd.underlying5 _ _ (Rn) rfl (fun x hx => Rp3.row (Rp.row_le (Rc.undrew hx) HRB9.out) HNL.out (by decide)) ?_; intro K hK; go_simp; refine hK _ ?_; clear hK K
          refine Rc.fK rfl rfl rfl rfl ?_ ?_
          · intro x Fs hx hle hg K hK
            have hbx : Below w.heap.size w x := HB9.out.trans ((Rc.undrew hx).mono HB9.out.size)
            have hck := (by rw [← HE2.out]; exact refcheckC_any ((a : Int) + 1) b Q2 (p 34).q (p 34).c Ra Rn x (by rw [HAL.out]; decide) hb63 HQN.out (HR.out.below hbx) hg.1 : Calls Tryd.prog 38 #[.int .i64 ((a : Int) + 1), .int .i64 b, .slice (p 34).q Q2.length (p 34).c, .string ⟨Ra.toArray⟩, .string ⟨Rn.toArray⟩] x fun e w' => e = .returned (.int .i64 E2) ∧ Below x.heap.size x w')
            have HCC := Lib.hid hck
            clear hck hg
            go_wp2_with fail
            refine HCC.out.mono ?_
            rintro e x' ⟨rfl, hb⟩
            go_wp2_with fail
            exact hK Rc.dflt x' hb (fun _ _ _ _ => trivial)
          intro K hK; go_simp; refine hK _ ?_; clear hK K
          iterate 2 (refine Rc.rK rfl rfl ?_; intro K hK; apply Exists.intro; refine ⟨?_, ?_⟩; (focus (intro x hx;  go_simp; (first | (fail) | ((try go_bits); (try go_simp); (try rfl))))); go_simp; refine hK _ ?_; clear hK K)
          refine Rc.done fun x Fs hx hle hg => ?_
          have HX : Hid (Below w.heap.size w x) := Lib.hid (HB9.out.trans ((Rc.undrew hx).mono HB9.out.size))
          clear hx hle hg cW
          go_wp2_with fail
          refine NoPanic.normal ?_
          go_wp2_with fail
          go_ret
          exact ⟨rfl, HX.out⟩
        ·
          have hqI : (0 : Int) < (QQ.length : Int) := by omega
          have hqN : 0 < QQ.length := by omega
          obtain ⟨gq, hgq⟩ : ∃ g, qq = some ⟨g, 0, none⟩ := by
            rcases HQ8.out.2.2 with ⟨_, h0⟩ | ⟨g, cap, cur, fz, hv, _⟩
            · omega
            · injection hv with h1; exact ⟨g, h1⟩
          subst hgq
          have HGQ : Hid (w3.heap.size ≤ gq ∧ gq < w4.heap.size) := Lib.hid (HSEQ.out gq rfl)
          clear hQ0
          go_wp2_with fail
          obtain ⟨m, hm⟩ : ∃ m, m = QQ.length / 2 := ⟨_, rfl⟩
          have hmO : m < QQ.length := by omega
          have hmI : (m : Int) < (QQ.length : Int) := by omega
          have hdv2 : (QQ.length : Int) / 2 = (m : Int) := by omega
          have hdv : (QQ.length : Int).tdiv 2 = (m : Int) := by rw [Int.tdiv_eq_ediv_of_nonneg (by omega)]; exact hdv2
          have hw : OwL (World.drew wA) w3.heap.size (.slice (some ⟨gq, 0, none⟩) QQ.length qc) QQ := HQA.out
          obtain ⟨z, hz⟩ : ∃ z, z = bt (QQ.getD m []) kk := ⟨_, rfl⟩
          obtain ⟨Z, hZ⟩ : ∃ Z, Z = z ^^^ 1 := ⟨_, rfl⟩
          obtain ⟨cB, fB, hown⟩ := hw.setbyte hmO hkk Z
          rw [← hz] at cB
          have hxor : bits .xor .u8 (z.toNat : Int) (1 : Int) = (Z.toNat : Int) := by
            rw [hZ, UInt8.toNat_xor]
            exact u8_xor16 z 1
          have hgr := grown_setCell (World.drew wA) gq (m * 32 + kk) (.int .u8 (Z.toNat : Int))
          obtain ⟨wB, hwA⟩ : ∃ wX9, wX9 = World.drew (World.setCell wA ⟨gq, m * 32 + kk, none⟩ (.int .u8 (Z.toNat : Int))) := ⟨_, rfl⟩
          have he : (World.drew wA).setCell ⟨gq, m * 32 + kk, none⟩ (.int .u8 (Z.toNat : Int)) = wB := by rw [hwA]; rfl
          rw [he] at hown hgr
          clear he
          obtain ⟨QS, hO2⟩ : ∃ O2, O2 = QQ.set m ((QQ.getD m []).set kk Z) := ⟨_, rfl⟩
          have hl2 : List.length QS = QQ.length := by rw [hO2, List.length_set]
          rw [← hO2, hl2] at hown
          have HOWNQ : Hid (OwL wB w3.heap.size (.slice (some ⟨gq, 0, none⟩) QQ.length qc) QS) := Lib.hid hown
          have HGRQ : Hid ((World.drew wA).grownBy wB (some gq)) := Lib.hid hgr
          have HL2Q : Hid (List.length QS = QQ.length) := Lib.hid hl2
          have HWA := Lib.hid hwA
          clear hw hz hZ hown hgr hO2 hl2 hwA hm
          refine Rp.pure [0, 1, 2, 3, 4, 5, 6, 9] [7, 8, 10, 11] (by kernel_rfl) (by kernel_rfl) ?_; simp only [Rp.pickN, Rp.nth]
          repeat (refine Rp.uK rfl ?_; intro K hK; apply Exists.intro; refine ⟨?_, ?_⟩; (focus (intro x; go_simp; (first | (fail) | ((try go_bits); (try go_simp); (try rfl))))); go_simp; refine hK _ ?_; clear hK K)
          refine Rp.uDone ?_
          go_wp2_with fail
          refine NoPanic.normal ?_
          rw [← HWA.out]
          clear cB fB hxor hdv hdv2 hmO hmI HWA
          have HRNB : Hid (wB.heap[rb]? = some (.cells (bysA Rn) 22 (0, 0))) := Lib.hid ((HGRQ.out.block rb (lt_of_heap HRNA.out) (fun e => by cases e; have := HZ.out; have := HGQ.out; omega)).trans HRNA.out)
          have HRBB : Hid (wB.heap[ob]? = some (.cells (bysA Ra) 22 (0, 0))) := Lib.hid ((HGRQ.out.block ob (lt_of_heap HRBA.out) (fun e => by cases e; have := HZ.out; have := HGQ.out; omega)).trans HRBA.out)
          have HOBB : Hid (Rd wB 1 (.slice qw b cw) b (strs N)) := Lib.hid (HOA.out.kpq (fun k hk => HGRQ.out.block k (Nat.lt_of_lt_of_le (HOB.out k hk) (by have := HZA.out; exact this.2)) (fun e => by cases e; have := HOB.out gq hk; have := HGQ.out; have := HZ.out; omega)))
          have HBB : Hid (Below w.heap.size w wB) := Lib.hid ((Below.drew HBA.out).trans (below_of_grown HGRQ.out (by have := HZ.out; have := HZA.out; have e : (World.drew wA).heap.size = (wA).heap.size := rfl; omega) (fun k hk => by cases hk; have := HGQ.out; have := HZ.out; omega)))
          have HPB : Hid (RdL wB (.slice (some ⟨gp, 0, none⟩) PS.length pc) PS) := Lib.hid (by
            have h9 := HOWNP.out
            rw [← HL2P.out] at h9
            exact ⟨h9.1, (Rd.of_ow h9.2).kpq (fun k hk => HGRQ.out.block k (h9.2.lt k hk).2 (fun e => by have h1 : gq = k := (Option.some.inj e).symm; have h2 : gp = k := Option.some.inj hk; have := HGP.out; have := HGQ.out; omega))⟩)
          go_wp2_with fail
          obtain ⟨wF, hwF⟩ : ∃ wF, wF = wB := ⟨_, rfl⟩
          have HB9 : Hid (Below w.heap.size w wF) := Lib.hid (by rw [hwF]; exact HBB.out)
          have HO9 : Hid (Rd wF 1 (.slice qw b cw) b (strs N)) := Lib.hid (by rw [hwF]; exact HOBB.out)
          have HRB9 : Hid (wF.heap[rb]? = some (.cells (bysA Rn) 22 (0, 0))) := Lib.hid (by rw [hwF]; exact HRNB.out)
          have HOB9 : Hid (wF.heap[ob]? = some (.cells (bysA Ra) 22 (0, 0))) := Lib.hid (by rw [hwF]; exact HRBB.out)
          rw [← hwF]
          rw [← HL2P.out, ← HL2Q.out]
          obtain ⟨P2, hP2⟩ : ∃ P2, P2 = PS := ⟨_, rfl⟩
          obtain ⟨p2, hp2⟩ : ∃ p2 : Option Addr, p2 = some ⟨gp, 0, none⟩ := ⟨_, rfl⟩
          obtain ⟨pc2, hpc2⟩ : ∃ pc2, pc2 = pc := ⟨_, rfl⟩
          have HP9 : Hid (RdL wF (.slice p2 P2.length pc2) P2) := Lib.hid (by rw [hP2, hp2, hpc2]; exact by rw [hwF]; exact HPB.out)
          have hP2l : P2.length ≤ 1000 := by rw [hP2]; (try (have h9 := HL2P.out; rw [h9])); omega
          rw [← hP2, ← hp2, ← hpc2]
          clear hP2 hp2 hpc2
          obtain ⟨Q2, hQ2e⟩ : ∃ Q2, Q2 = QS := ⟨_, rfl⟩
          obtain ⟨q2, hq2⟩ : ∃ q2 : Option Addr, q2 = some ⟨gq, 0, none⟩ := ⟨_, rfl⟩
          obtain ⟨qc2, hqc2⟩ : ∃ qc2, qc2 = qc := ⟨_, rfl⟩
          have HQ9 : Hid (RdL wF (.slice q2 Q2.length qc2) Q2) := Lib.hid (by rw [hQ2e, hq2, hqc2]; exact by rw [hwF, HL2Q.out]; have h9 := HOWNQ.out; rw [← HL2Q.out] at h9; have := h9.rd; rwa [HL2Q.out] at this)
          have hQ2 : Q2.length ≤ 1000 := by rw [hQ2e]; have := HL2Q.out; omega
          rw [← hQ2e, ← hq2, ← hqc2]
          clear hQ2e hq2 hqc2
          have HE1 : Hid (refchkI X a b P2 Rn = chkI X a b P2 Rn) := Lib.hid (chkI_same _ _ _ _ _)
          have HE2 : Hid (refchkC ((a : Int) + 1) b Q2 Ra Rn = chkC ((a : Int) + 1) b Q2 Ra Rn) := Lib.hid (chkC_same _ _ _ _ _)
          have HPN : Hid (∀ x ∈ P2, x.length ≤ 1000) := Lib.hid (fun x hx => by rw [HP9.out.1 x hx]; decide)
          have HQN : Hid (∀ x ∈ Q2, x.length ≤ 1000) := Lib.hid (fun x hx => by rw [HQ9.out.1 x hx]; decide)
          obtain ⟨E1, hE1⟩ : ∃ E1, E1 = chkI X a b P2 Rn := ⟨_, rfl⟩
          obtain ⟨E2, hE2⟩ : ∃ E2, E2 = chkC ((a : Int) + 1) b Q2 Ra Rn := ⟨_, rfl⟩
          rw [← hE1] at HE1
          rw [← hE2] at HE2
          have HF1 := Lib.hid hE1
          have HF2 := Lib.hid hE2
          obtain ⟨bw, ow, hqw, hbw, _, _, hcw2⟩ := Rd_lt HO9.out hb0
          subst hqw
          have cW : (wF).cell? ⟨bw, ow + a, none⟩ = some (.string ⟨X.toArray⟩) := by rw [HXX.out]; exact hcw2 a _ (strs_get (by have := HBN.out; omega))
          clear hE1 hE2 hcw2


          refine Rc.region ((wF).heap.size) 42 [Rc.F 4 (fun p => .slice p.q X.length p.c) (fun p _ y => Rd y 1 (.slice p.q X.length p.c) X.length (bys X)), Rc.G 9 [4] (fun _ => .int .i64 E1) (fun _ _ _ => True), Rc.F 17 (fun p => .slice p.q P2.length p.c) (fun p _ y => Rd y 1 (.slice p.q P2.length p.c) P2.length (strs P2)), Rc.G 20 [17] (fun _ => .int .i64 E1) (fun _ _ _ => True), Rc.F 29 (fun _ => .int .i64 E2) (fun _ _ _ => True), Rc.F 34 (fun p => .slice p.q Q2.length p.c) (fun p _ y => Rd y 1 (.slice p.q Q2.length p.c) Q2.length (strs Q2)), Rc.G 39 [34] (fun _ => .int .i64 E2) (fun _ _ _ => True)] [] (by kernel_rfl) (Nat.le_refl _) (by kernel_rfl) ?_; intro p; simp only [List.take, List.drop]
          iterate 3 (refine Rc.rK rfl rfl ?_; intro K hK; apply Exists.intro; refine ⟨?_, ?_⟩; (focus (intro x hx;  go_simp; (first | (fail) | ((try go_bits); (try go_simp); (try rfl))))); go_simp; refine hK _ ?_; clear hK K)
          iterate 1 (refine Rc.rK rfl rfl ?_; intro K hK; apply Exists.intro; refine ⟨?_, ?_⟩; (focus (intro x hx; have d0 := Rc.cell_le hx hbw cW; go_simp; (first | (fail) | ((try go_bits); (try go_simp); (try rfl))))); go_simp; refine hK _ ?_; clear hK K)
          refine Rc.fK rfl rfl rfl rfl ?_ ?_
          · intro x Fs hx hle hg K hK
            refine conv_bytes rfl 9 23 _ rfl 5 Tryd.underlying9 Tryd.underlying23 Tryd.underlying5 ⟨X.toArray⟩ rfl x.heap.size (Nat.le_refl _) (by show X.length ≤ maxLen; have := HXL.out; unfold maxLen; omega) ?_
            intro v x' how hb
            have how : Ow x' x.heap.size 5 1 v X.length (bys X) := how
            obtain ⟨q', c', rfl⟩ := Ow_form how
            go_wp2_with fail
            exact hK ⟨q', c', undef⟩ x' hb (fun F y hF hy => (Rd.of_ow how).keeps hy (fun k hk => .inr (hF k (how.lt k hk).1 (how.lt k hk).2)))
          intro K hK; go_simp; refine hK _ ?_; clear hK K
          iterate 3 (refine Rc.rK rfl rfl ?_; intro K hK; apply Exists.intro; refine ⟨?_, ?_⟩; (focus (intro x hx;  go_simp; (first | (fail) | ((try go_bits); (try go_simp); (try rfl))))); go_simp; refine hK _ ?_; clear hK K)
          refine Rc.r_load rfl rfl _ _ rfl (.agg (bysA Rn)) (fun x hx => load_whole (Rp.row_le (Rc.undrew hx) HRB9.out) HNL.out) ?_; intro K hK; go_simp; refine hK _ ?_; clear hK K
          refine Rc.fK rfl rfl rfl rfl ?_ ?_
          · intro x Fs hx hle hg K hK
            have hbx : Below w.heap.size w x := HB9.out.trans ((Rc.undrew hx).mono HB9.out.size)
            have hck := (by rw [HF1.out]; exact checkI_any (p 4).q (p 4).c X a b p2 pc2 P2 Rn x (HS.out.below hbx) hg.1 (by have := HXL.out; omega) (HP9.out.below (Rc.undrew hx)) HNL.out hb63 : Calls Tryd.prog 35 #[.slice (p 4).q X.length (p 4).c, .int .i64 a, .int .i64 b, .slice p2 P2.length pc2, .agg (bysA Rn)] x fun e w' => e = .returned (.int .i64 E1) ∧ Below x.heap.size x w')
            have HCC := Lib.hid hck
            clear hck hg
            go_wp2_with fail
            refine HCC.out.mono ?_
            rintro e x' ⟨rfl, hb⟩
            go_wp2_with fail
            exact hK Rc.dflt x' hb (fun _ _ _ _ => trivial)
          intro K hK; go_simp; refine hK _ ?_; clear hK K
          iterate 3 (refine Rc.rK rfl rfl ?_; intro K hK; apply Exists.intro; refine ⟨?_, ?_⟩; (focus (intro x hx;  go_simp; (first | (fail) | ((try go_bits); (try go_simp); (try rfl))))); go_simp; refine hK _ ?_; clear hK K)
          iterate 1 (refine Rc.rK rfl rfl ?_; intro K hK; apply Exists.intro; refine ⟨?_, ?_⟩; (focus (intro x hx; have d0 := Rc.cell_le hx hbw cW; go_simp; (first | (fail) | ((try go_bits); (try go_simp); (try rfl))))); go_simp; refine hK _ ?_; clear hK K)
          iterate 3 (refine Rc.rK rfl rfl ?_; intro K hK; apply Exists.intro; refine ⟨?_, ?_⟩; (focus (intro x hx;  go_simp; (first | (fail) | ((try go_bits); (try go_simp); (try rfl))))); go_simp; refine hK _ ?_; clear hK K)
          refine Rc.fK rfl rfl rfl rfl ?_ ?_
          · intro x Fs hx hle hg K hK
            have ht := texts16_any p2 pc2 P2 x (HP9.out.below (Rc.undrew hx)) (by omega)
            have HTX := Lib.hid ht
            clear ht
            go_wp2_with fail
            refine HTX.out.mono ?_
            rintro e x' ⟨v, rfl, how, hb⟩
            obtain ⟨q', c', rfl⟩ := Ow_form how
            go_wp2_with fail
            exact hK ⟨q', c', undef⟩ x' hb (fun F y hF hy => (Rd.of_ow how).keeps hy (fun k hk => .inr (hF k (how.lt k hk).1 (how.lt k hk).2)))
          intro K hK; go_simp; refine hK _ ?_; clear hK K
          iterate 1 (refine Rc.rK rfl rfl ?_; intro K hK; apply Exists.intro; refine ⟨?_, ?_⟩; (focus (intro x hx;  go_simp; (first | (fail) | ((try go_bits); (try go_simp); (try rfl))))); go_simp; refine hK _ ?_; clear hK K)
          refine Rc.r_str rfl rfl 23 9 _ rfl 5 Tryd.underlying9 Tryd.underlying23 Tryd.underlying5 _ _ (Rn) rfl (fun x hx => Rp3.row (Rp.row_le (Rc.undrew hx) HRB9.out) HNL.out (by decide)) ?_; intro K hK; go_simp; refine hK _ ?_; clear hK K
          refine Rc.fK rfl rfl rfl rfl ?_ ?_
          · intro x Fs hx hle hg K hK
            have hbx : Below w.heap.size w x := HB9.out.trans ((Rc.undrew hx).mono HB9.out.size)
            have hck := (by rw [← HE1.out]; exact refcheckI_any X a b P2 (p 17).q (p 17).c Rn x HXL.out hb63 HPN.out (HR.out.below hbx) hg.1 : Calls Tryd.prog 37 #[.string ⟨X.toArray⟩, .int .i64 a, .int .i64 b, .slice (p 17).q P2.length (p 17).c, .string ⟨Rn.toArray⟩] x fun e w' => e = .returned (.int .i64 E1) ∧ Below x.heap.size x w')
            have HCC := Lib.hid hck
            clear hck hg
            go_wp2_with fail
            refine HCC.out.mono ?_
            rintro e x' ⟨rfl, hb⟩
            go_wp2_with fail
            exact hK Rc.dflt x' hb (fun _ _ _ _ => trivial)
          intro K hK; go_simp; refine hK _ ?_; clear hK K
          iterate 6 (refine Rc.rK rfl rfl ?_; intro K hK; apply Exists.intro; refine ⟨?_, ?_⟩; (focus (intro x hx;  go_simp; (first | (fail) | ((try go_bits); (try go_simp); (try rfl))))); go_simp; refine hK _ ?_; clear hK K)
          refine Rc.r_load rfl rfl _ _ rfl (.agg (bysA Ra)) (fun x hx => load_whole (Rp.row_le (Rc.undrew hx) HOB9.out) HAL.out) ?_; intro K hK; go_simp; refine hK _ ?_; clear hK K
          refine Rc.r_load rfl rfl _ _ rfl (.agg (bysA Rn)) (fun x hx => load_whole (Rp.row_le (Rc.undrew hx) HRB9.out) HNL.out) ?_; intro K hK; go_simp; refine hK _ ?_; clear hK K
          refine Rc.fK rfl rfl rfl rfl ?_ ?_
          · intro x Fs hx hle hg K hK
            have hbx : Below w.heap.size w x := HB9.out.trans ((Rc.undrew hx).mono HB9.out.size)
            have hck := (by rw [HF2.out]; exact checkC_any ((a : Int) + 1) b q2 qc2 Q2 Ra Rn x (HS.out.below hbx) (HQ9.out.below (Rc.undrew hx)) hQ2 HAL.out HNL.out hb63 : Calls Tryd.prog 36 #[.int .i64 ((a : Int) + 1), .int .i64 b, .slice q2 Q2.length qc2, .agg (bysA Ra), .agg (bysA Rn)] x fun e w' => e = .returned (.int .i64 E2) ∧ Below x.heap.size x w')
            have HCC := Lib.hid hck
            clear hck hg
            go_wp2_with fail
            refine HCC.out.mono ?_
            rintro e x' ⟨rfl, hb⟩
            go_wp2_with fail
            exact hK Rc.dflt x' hb (fun _ _ _ _ => trivial)
          intro K hK; go_simp; refine hK _ ?_; clear hK K
          iterate 4 (refine Rc.rK rfl rfl ?_; intro K hK; apply Exists.intro; refine ⟨?_, ?_⟩; (focus (intro x hx;  go_simp; (first | (fail) | ((try go_bits); (try go_simp); (try rfl))))); go_simp; refine hK _ ?_; clear hK K)
          refine Rc.fK rfl rfl rfl rfl ?_ ?_
          · intro x Fs hx hle hg K hK
            have ht := texts16_any q2 qc2 Q2 x (HQ9.out.below (Rc.undrew hx)) (by omega)
            have HTX := Lib.hid ht
            clear ht
            go_wp2_with fail
            refine HTX.out.mono ?_
            rintro e x' ⟨v, rfl, how, hb⟩
            obtain ⟨q', c', rfl⟩ := Ow_form how
            go_wp2_with fail
            exact hK ⟨q', c', undef⟩ x' hb (fun F y hF hy => (Rd.of_ow how).keeps hy (fun k hk => .inr (hF k (how.lt k hk).1 (how.lt k hk).2)))
          intro K hK; go_simp; refine hK _ ?_; clear hK K
          iterate 1 (refine Rc.rK rfl rfl ?_; intro K hK; apply Exists.intro; refine ⟨?_, ?_⟩; (focus (intro x hx;  go_simp; (first | (fail) | ((try go_bits); (try go_simp); (try rfl))))); go_simp; refine hK _ ?_; clear hK K)
          refine Rc.r_str rfl rfl 23 9 _ rfl 5 Tryd.underlying9 Tryd.underlying23 Tryd.underlying5 _ _ (Ra) rfl (fun x hx => Rp3.row (Rp.row_le (Rc.undrew hx) HOB9.out) HAL.out (by decide)) ?_; intro K hK; go_simp; refine hK _ ?_; clear hK K
          iterate 1 (refine Rc.rK rfl rfl ?_; intro K hK; apply Exists.intro; refine ⟨?_, ?_⟩; (focus (intro x hx;  go_simp; (first | (fail) | ((try go_bits); (try go_simp); (try rfl))))); go_simp; refine hK _ ?_; clear hK K)
          refine Rc.r_str rfl rfl 23 9 _ rfl 5 Tryd.underlying9 Tryd.underlying23 Tryd.underlying5 _ _ (Rn) rfl (fun x hx => Rp3.row (Rp.row_le (Rc.undrew hx) HRB9.out) HNL.out (by decide)) ?_; intro K hK; go_simp; refine hK _ ?_; clear hK K
          refine Rc.fK rfl rfl rfl rfl ?_ ?_
          · intro x Fs hx hle hg K hK
            have hbx : Below w.heap.size w x := HB9.out.trans ((Rc.undrew hx).mono HB9.out.size)
            have hck := (by rw [← HE2.out]; exact refcheckC_any ((a : Int) + 1) b Q2 (p 34).q (p 34).c Ra Rn x (by rw [HAL.out]; decide) hb63 HQN.out (HR.out.below hbx) hg.1 : Calls Tryd.prog 38 #[.int .i64 ((a : Int) + 1), .int .i64 b, .slice (p 34).q Q2.length (p 34).c, .string ⟨Ra.toArray⟩, .string ⟨Rn.toArray⟩] x fun e w' => e = .returned (.int .i64 E2) ∧ Below x.heap.size x w')
            have HCC := Lib.hid hck
            clear hck hg
            go_wp2_with fail
            refine HCC.out.mono ?_
            rintro e x' ⟨rfl, hb⟩
            go_wp2_with fail
            exact hK Rc.dflt x' hb (fun _ _ _ _ => trivial)
          intro K hK; go_simp; refine hK _ ?_; clear hK K
          iterate 2 (refine Rc.rK rfl rfl ?_; intro K hK; apply Exists.intro; refine ⟨?_, ?_⟩; (focus (intro x hx;  go_simp; (first | (fail) | ((try go_bits); (try go_simp); (try rfl))))); go_simp; refine hK _ ?_; clear hK K)
          refine Rc.done fun x Fs hx hle hg => ?_
          have HX : Hid (Below w.heap.size w x) := Lib.hid (HB9.out.trans ((Rc.undrew hx).mono HB9.out.size))
          clear hx hle hg cW
          go_wp2_with fail
          refine NoPanic.normal ?_
          go_wp2_with fail
          go_ret
          exact ⟨rfl, HX.out⟩
end Ref
end Go.Proofs.YtkembhonfehlbaaDoor

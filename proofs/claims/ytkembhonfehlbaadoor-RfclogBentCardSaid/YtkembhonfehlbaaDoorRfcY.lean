/- The walk of custumallaw16.RfclogGrows. -/
import Derived.Test.YtkembhonfehlbaaDoorRfcX
import Derived.Test.YtkembhonfehlbaaDoorRfcN
namespace Go.Proofs.YtkembhonfehlbaaDoor
open Go.RowKit Bits Mem Sha
namespace Ref
/-- What a log tells of a beginning is taken. -/
theorem chkC_shows (D : List (List UInt8)) (m n : Nat) (hn : n ≤ D.length) (hmn : m ≤ n) : chkC m n (subS (D.take n) m true) (treeS (D.take m)) (treeS (D.take n)) = 0 := by
  have hl : (D.take n).length = n := by rw [List.length_take]; omega
  rw [← chkC_same]
  unfold refchkC
  rw [if_neg (by omega)]
  by_cases h0 : m = 0
  · subst h0
    rw [if_pos (by rfl), subS_end _ _ _ (by omega)]
    refine if_pos ⟨rfl, Rfc.mth_nil _ _, ?_⟩
    by_cases hn0 : n = 0
    · subst hn0; exact .inr rfl
    · exact .inl (by omega)
  · rw [if_neg (by omega)]
    have hb := Rfc.both_sub nodeS (sha []) n (D.take n) m true (treeS (D.take m)) [] hl (by omega) hmn (fun _ => by
      show treeS (D.take m) = treeS ((D.take n).take m)
      rw [List.take_take, Nat.min_eq_left hmn])
    rw [show ((m : Int)).toNat = m from rfl, show ((n : Int)).toNat = n from rfl]
    have hb' : Rfc.both nodeS m n (subS (D.take n) m true) true (treeS (D.take m)) [] = (treeS (D.take m), treeS (D.take n), true) := by
      have e : treeS ((D.take n).take m) = treeS (D.take m) := by rw [List.take_take, Nat.min_eq_left hmn]
      rw [← e]
      rw [← e] at hb
      exact hb
    rw [hb']
    exact if_pos ⟨rfl, rfl, rfl⟩
theorem rootAns_of (D : List (List UInt8)) (n : Nat) (h : n ≤ D.length) : rootAns D n = .tuple #[.agg (bysA (treeS (D.take n))), .int .i64 0] := by
  unfold rootAns
  rw [if_pos (by omega)]
  rfl
set_option maxRecDepth 100000 in
set_option maxHeartbeats 8000000 in
theorem rfclogGrows_any (q : Option Addr) (c : Nat) (L : List (List UInt8)) (q2 : Option Addr) (c2 : Nat) (L2 : List (List UInt8)) (w : World) (hS : Sha.Tabs w) (hR : Ref.Tabs w) (hp : RawParts w (.slice q L.length c) L) (hp2 : RawParts w (.slice q2 L2.length c2) L2) :
    Calls Tryd.prog 9 #[.slice q L.length c, .slice q2 L2.length c2] w fun e w' => e = .returned (.bool true) ∧ Below w.heap.size w w' := by
  have HS := Lib.hid hS
  have HR := Lib.hid hR
  have HP := Lib.hid hp
  have HP2 := Lib.hid hp2
  clear hS hR hp hp2
  go_enter Tryd.func9, Tryd.ntmps9
  go_wp2_with fail
  refine (fill_any q c L w HS.out HP.out).mono ?_
  rintro e w1 ⟨lb, base, lq, lc, qw, cw, rfl, h1, h2, h3, hL, hO, hb1⟩
  obtain ⟨N, hN⟩ : ∃ N, N = few L 20 60 := ⟨_, rfl⟩
  rw [← hN] at hL ⊢
  have hN20 : N.length ≤ 20 := by rw [hN, few_length]; omega
  obtain ⟨D, hD⟩ : ∃ D, D = N.map leafS := ⟨_, rfl⟩
  rw [← hD] at hL
  have hDl : D.length = N.length := by rw [hD, List.length_map]
  have hDA : All32 D := by rw [hD]; intro x hx; obtain ⟨y, _, rfl⟩ := List.mem_map.1 hx; exact leafS_length y
  obtain ⟨n, hn⟩ : ∃ n, n = N.length := ⟨_, rfl⟩
  rw [← hn] at hDl hN20 ⊢
  have HB1 := Lib.hid hb1
  have HL1 := Lib.hid hL
  have HBS := Lib.hid (And.intro h1 (And.intro h2 h3))
  obtain ⟨R, hR⟩ : ∃ R, R = treeS D := ⟨_, rfl⟩
  have hra : rootAns D n = .tuple #[.agg (bysA R), .int .i64 0] := by rw [rootAns_of D n (by omega), List.take_of_length_le (by omega), hR]
  have HRL : Hid (R.length = 32) := Lib.hid (by rw [hR]; exact treeS_length _ hDA)
  have HRE := Lib.hid hR
  have HIR := Lib.hid (info_of HRL.out)
  have HDA := Lib.hid hDA
  have hT0 : (2 : Nat) < lb ∧ (3 : Nat) < lb := by
    have a1 := HS.out.lt1
    obtain ⟨_, _, a2⟩ := HS.out.rounds
    have a3 := lt_of_heap a2
    omega
  have HT0 := Lib.hid hT0
  clear hb1 hL hO h1 h2 h3 hN hD hR hDA hn hT0
  go_wp2_with fail
  refine (logroot_any lb base lq lc D n w1 (HS.out.below HB1.out) HL1.out (by omega)).mono ?_
  rintro e w2 ⟨rfl, hb2⟩
  rw [hra]
  obtain ⟨w3, hw3⟩ : ∃ w3, w3 = World.alloc w2 (.cells (bysA R) 22) := ⟨_, rfl⟩
  have hb3 : Below (World.heap w1).size w1 w3 := by rw [hw3]; exact hb2.alloc hb2.size _
  have HRB3 : Hid ((World.heap w3)[(World.heap w2).size]? = some (.cells (bysA R) 22 (0, 0))) := Lib.hid (by rw [hw3]; exact Rg.heap_alloc_at _ _ _ rfl)
  have HB3 : Hid (Below w.heap.size w w3) := Lib.hid (HB1.out.trans (hb3.mono HB1.out.size))
  have HL3 := Lib.hid (HL1.out.below hb3)
  have HLE3 : Hid (Below (World.heap w1).size w1 w3) := Lib.hid hb3
  have hsz3 : (World.heap w1).size ≤ (World.heap w2).size := hb2.size
  have HSZ3 : Hid ((World.heap w3).size = (World.heap w2).size + 1) := Lib.hid (by rw [hw3]; simp)
  have HW3 := Lib.hid hw3
  clear hw3 hb3 hb2
  go_wp2_with (refine Rg.store_row_new rfl 22 _ _ rfl (World.heap w2).size rfl rfl 22 _ (bysA R) rfl HIR.out (by rw [bysA_size, HRL.out]; rfl) (bysA_one _) ?_; refine Hid.out ?_)
  rw [← HW3.out]
  clear HW3
  refine Lib.hid ?_
  obtain ⟨rb, hrb⟩ : ∃ rb, rb = w2.heap.size := ⟨_, rfl⟩
  rw [← hrb] at HRB3 hsz3 HSZ3 ⊢
  have hown1 : ∀ j, (Value.slice lq D.length lc).ownBlock = some j → j < rb := fun j hj => by have := (HL1.out.2.2.lt j hj).2; omega
  have HOW1 := Lib.hid hown1
  clear hrb hra hown1
  go_wp2_with fail
  refine (few_any q2 c2 L2 10 60 w3 (RawParts.below16 HP2.out HB3.out) (by decide) (by decide) (by decide) (by decide)).mono ?_
  rintro e w4 ⟨v, rfl, ⟨vs, hO⟩, hb4⟩
  obtain ⟨M, hM⟩ : ∃ M, M = few L2 (10 : Int).toNat (60 : Int).toNat := ⟨_, rfl⟩
  rw [← hM] at hO
  obtain ⟨qv, cv, rfl⟩ := Ow_form hO.1
  obtain ⟨B2, hB2⟩ : ∃ B2, B2 = w4.heap.size := ⟨_, rfl⟩
  have hB12 : w3.heap.size ≤ B2 := by rw [hB2]; exact hb4.size
  have HI4 : Hid (InOK w4 w3.heap.size B2 (.slice qv M.length cv) M vs) := Lib.hid ⟨hO, fun k hk => by rw [hB2]; exact (hO.1.lt k hk).2, fun x hx k hk => by
    obtain ⟨i, hi, hxi⟩ := List.getElem_of_mem hx
    obtain ⟨l, _, ho⟩ := hO.2.1 i x (by rw [← hxi]; exact List.getElem?_eq_getElem hi)
    rw [hB2]
    exact (ho.lt k hk).2⟩
  have hM10 : M.length ≤ 10 := by rw [hM, few_length]; show min 10 _ ≤ 10; omega
  have HM60 : Hid (∀ x ∈ M, x.length ≤ 60) := Lib.hid (fun x hx => by
    rw [hM] at hx
    obtain ⟨y, _, rfl⟩ := List.mem_map.1 hx
    rw [List.length_take]
    show min 60 _ ≤ 60
    omega)
  have HL4 := Lib.hid (HL3.out.below hb4)
  have HB4 : Hid (Below w.heap.size w w4) := Lib.hid (HB3.out.trans (hb4.mono HB3.out.size))
  have HRB4 := Lib.hid (Rp.row_le hb4 HRB3.out)
  have HB2E := Lib.hid hB2
  have HR3 : Hid (w3.heap.size = rb + 1) := HSZ3
  clear hM hO hb4 hB2 HL3 HB3 HRB3 HLE3 HL1 HB1
  go_wp2_with fail
  go_loopw [11] (fun iv wr => ∃ (k : Nat) (lq : Option Addr) (lc : Nat), k ≤ M.length ∧ iv = .int .i64 k ∧ Hid (B2 ≤ wr.heap.size) ∧ Hid (LogAt wr lb base lq lc (D ++ (M.take k).map leafS)) ∧ Hid (InOK wr w3.heap.size B2 (.slice qv M.length cv) M vs) ∧
    Hid (∀ j, (Value.slice lq (D ++ (M.take k).map leafS).length lc).ownBlock = some j → j < rb ∨ B2 ≤ j) ∧ Hid (Below w.heap.size w wr) ∧ Hid (wr.heap[rb]? = some (.cells (bysA R) 22 (0, 0)))) (fun iv _ => M.length - (intOf iv).toNat)
  case atStart => exact ⟨0, lq, lc, Nat.zero_le _, rfl, Lib.hid (Nat.le_of_eq HB2E.out), Lib.hid (by simpa using HL4.out), HI4, Lib.hid (fun j hj => .inl (HOW1.out j (by simpa using hj))), HB4, HRB4⟩
  case round =>
    obtain ⟨k, lq, lc, hk, rfl, HSZ, HLG, HI, HOW, HB, HRB⟩ := hrel
    clear HL4 HI4 HB4 HRB4 HOW1
    by_cases hlt : k < M.length
    · have hkI : (k : Int) < M.length := by omega
      obtain ⟨x, hx⟩ : ∃ x, M[k]? = some x := ⟨_, List.getElem?_eq_getElem hlt⟩
      obtain ⟨b, o, qe, ce, hqv, hb, hve, cE, hoe⟩ := HI.out.load rfl hx
      subst hqv
      have hxl : x.length ≤ 60 := HM60.out x (List.mem_of_getElem? hx)
      have HTK : Hid (M.take (k + 1) = M.take k ++ [x]) := Lib.hid (by rw [List.take_add_one, hx]; rfl)
      have hdl : (D ++ (M.take k).map leafS).length = n + k := by rw [List.length_append, List.length_map, List.length_take]; omega
      have hlows := HI.out.lows _ (List.mem_of_getElem? hve)
      have hlq : (Value.slice qe x.length ce).ownBlock = none ∨ (Value.slice qe x.length ce).ownBlock ≠ (Value.slice lq (D ++ (M.take k).map leafS).length lc).ownBlock := by
        cases hq : (Value.slice qe x.length ce).ownBlock with
        | none => exact .inl rfl
        | some j =>
          refine .inr fun e => ?_
          have a1 := hlows j hq
          have a2 := (hoe.lt j hq).1
          have a3 := HOW.out j e.symm
          have a4 := HR3.out
          omega
      have HADD := Lib.hid (logadd_any lb base lq lc _ qe ce x wr (HS.out.below HB.out) HLG.out (by have := HBS.out; have := HSZ.out; have := HR3.out; omega) (by have := HT0.out; have := HBS.out; omega) (by omega) (Rd.of_ow hoe) hlq (by omega))
      rw [hdl] at HADD
      clear hve hlows hlq hx hoe
      go_wp2_with fail
      refine HADD.out.mono ?_
      rintro e w5 ⟨lq', lc', rfl, hL5, hK5, hown5⟩
      have hS5 : ∀ j, (j = lb ∨ (Value.slice lq (D ++ (M.take k).map leafS).length lc).ownBlock = some j) → j < rb ∨ B2 ≤ j := fun j hj => by
        rcases hj with hj | hj
        · have := HBS.out; omega
        · exact HOW.out j hj
      rw [← hdl] at hK5 hown5
      have e5 : D ++ (M.take (k + 1)).map leafS = D ++ (M.take k).map leafS ++ [leafS x] := by rw [HTK.out, List.map_append, List.append_assoc]; rfl
      have HL5 : Hid (LogAt w5 lb base lq' lc' (D ++ (M.take (k + 1)).map leafS)) := Lib.hid (by rw [e5]; exact hL5)
      have HI5 : Hid (InOK w5 w3.heap.size B2 (.slice (some ⟨b, o, none⟩) M.length cv) M vs) := Lib.hid (HI.out.kp hK5 (fun j hj => by have a1 := hS5 j hj; have a2 := HR3.out; omega))
      have HB5 : Hid (Below w.heap.size w w5) := Lib.hid (HB.out.trans (hK5.below HB.out.size (fun j hj => by
        rcases hj with e | e
        · have := HBS.out; omega
        · have a1 := (HLG.out.2.2.lt j e).1; have a2 := HBS.out; omega)))
      have HRB5 : Hid (w5.heap[rb]? = some (.cells (bysA R) 22 (0, 0))) := Lib.hid ((hK5.block rb (lt_of_heap HRB.out) (fun e => by have a1 := hS5 rb e; have a2 := HR3.out; omega)).trans HRB.out)
      have HOW5 : Hid (∀ j, (Value.slice lq' (D ++ (M.take (k + 1)).map leafS).length lc').ownBlock = some j → j < rb ∨ B2 ≤ j) := Lib.hid (fun j hj => by
        rw [e5] at hj
        rcases hown5 j hj with h | h
        · exact HOW.out j h
        · have := HSZ.out; omega)
      have HSZ5 : Hid (B2 ≤ w5.heap.size) := Lib.hid (Nat.le_trans HSZ.out hK5.size)
      clear hL5 hK5 hown5 hS5 e5 HADD
      go_wp2_with fail
      exact ⟨⟨k + 1, lq', lc', by omega, by go_num, HSZ5, HL5, HI5, HOW5, HB5, HRB5⟩, by simp [intOf]; omega⟩
    · obtain rfl : k = M.length := by omega
      have htk : M.take M.length = M := List.take_length
      rw [htk] at HLG HOW
      obtain ⟨D1, hD1⟩ : ∃ D1, D1 = D ++ M.map leafS := ⟨_, rfl⟩
      rw [← hD1] at HLG
      have hd1l : D1.length = n + M.length := by rw [hD1, List.length_append, List.length_map]; omega
      have hd1t : D1.take n = D := by rw [hD1, ← hDl, List.take_left]
      have HD1A : Hid (All32 D1) := Lib.hid (by rw [hD1]; exact HDA.out.append (fun x hx => by obtain ⟨y, _, rfl⟩ := List.mem_map.1 hx; exact leafS_length y))
      have hra1 : rootAns D1 n = .tuple #[.agg (bysA R), .int .i64 0] := by rw [rootAns_of D1 n (by omega), hd1t, HRE.out]
      obtain ⟨R1, hR1⟩ : ∃ R1, R1 = treeS D1 := ⟨_, rfl⟩
      have hra2 : rootAns D1 D1.length = .tuple #[.agg (bysA R1), .int .i64 0] := by rw [rootAns_of D1 D1.length (Nat.le_refl _), List.take_length, hR1]
      have HR1L : Hid (R1.length = 32) := Lib.hid (by rw [hR1]; exact treeS_length _ HD1A.out)
      have HIR1 := Lib.hid (info_of HR1L.out)
      obtain ⟨PP, hPP⟩ : ∃ PP, PP = subS D1 n true := ⟨_, rfl⟩
      have HCK : Hid (chkC n D1.length PP R R1 = 0) := Lib.hid (by
        have := chkC_shows D1 n D1.length (Nat.le_refl _) (by omega)
        rw [List.take_length, hd1t, ← hPP, ← hR1, ← HRE.out] at this
        exact this)
      have hPl : PP.length ≤ 1000 := by rw [hPP]; have := subS_len D1.length D1 n true rfl; omega
      have HPP := Lib.hid hPP
      have HD1L := Lib.hid hd1l
      have hd1k : D1.length ≤ 1000 := by omega
      have hnd1 : n ≤ D1.length := by omega
      have hd163 : (D1.length : Int) ≤ 9223372036854775807 := by omega
      have hdI : ((D1.length : Int) == (n : Int) + (M.length : Int)) = true := by rw [beq_iff_eq]; omega
      have HRA2 := Lib.hid hra2
      clear htk hD1 hd1t hR1 hPP hlt HOW HI HSZ hra2 hd1l
      go_wp2_with fail
      refine (logroot_any lb base lq lc D1 n wr (HS.out.below HB.out) HLG.out (by omega)).mono ?_
      rintro e w6 ⟨rfl, hb2⟩
      rw [hra1]
      obtain ⟨w7, hw3⟩ : ∃ w3, w3 = World.alloc w6 (.cells (bysA R) 22) := ⟨_, rfl⟩
      have hb3 : Below (World.heap wr).size wr w7 := by rw [hw3]; exact hb2.alloc hb2.size _
      have HRB7 : Hid ((World.heap w7)[(World.heap w6).size]? = some (.cells (bysA R) 22 (0, 0))) := Lib.hid (by rw [hw3]; exact Rg.heap_alloc_at _ _ _ rfl)
      have HB7 : Hid (Below w.heap.size w w7) := Lib.hid (HB.out.trans (hb3.mono HB.out.size))
      have HL7 := Lib.hid (HLG.out.below hb3)
      have HLE7 : Hid (Below (World.heap wr).size wr w7) := Lib.hid hb3
      have hsz7 : (World.heap wr).size ≤ (World.heap w6).size := hb2.size
      have HSZ7 : Hid ((World.heap w7).size = (World.heap w6).size + 1) := Lib.hid (by rw [hw3]; simp)
      have HW3 := Lib.hid hw3
      clear hw3 hb3 hb2
      go_wp2_with (refine Rg.store_row_new rfl 22 _ _ rfl (World.heap w6).size rfl rfl 22 _ (bysA R) rfl HIR.out (by rw [bysA_size, HRL.out]; rfl) (bysA_one _) ?_; refine Hid.out ?_)
      rw [← HW3.out]
      clear HW3
      refine Lib.hid ?_
      have HRA7 := Lib.hid (Rp.row_le HLE7.out HRB.out)
      obtain ⟨sb, hsb⟩ : ∃ sb, sb = w6.heap.size := ⟨_, rfl⟩
      rw [← hsb] at HRB7 ⊢
      clear hsb hsz7 HSZ7 hra1 HLE7
      go_wp2_with fail
      refine (loglen_any lb base lq lc D1 w7 HL7.out).mono ?_
      rintro e w7' ⟨rfl, hw⟩
      subst hw
      go_wp2_with fail
      have hcons := consistency_any lb base lq lc D1 n D1.length w7' (HS.out.below HB7.out) HL7.out hd1k (Nat.le_refl _) hnd1
      rw [List.take_length, ← HPP.out] at hcons
      refine hcons.mono ?_
      clear hcons
      rintro e w8 ⟨pq, pc, rfl, hop, hb8⟩
      have HP8 := Lib.hid hop.rd
      have HL8 := Lib.hid (HL7.out.below hb8)
      have HB8 : Hid (Below w.heap.size w w8) := Lib.hid (HB7.out.trans (hb8.mono HB7.out.size))
      have HRA8 := Lib.hid (Rp.row_le hb8 HRA7.out)
      have HSB8 := Lib.hid (Rp.row_le hb8 HRB7.out)
      clear hop hb8 HL7 HB7 HRA7 HRB7
      go_wp2_with fail
      refine (loglen_any lb base lq lc D1 w8 HL8.out).mono ?_
      rintro e w8' ⟨rfl, hw⟩
      subst hw
      go_wp2_with fail
      have hra2 := HRA2.out
      refine (logroot_any lb base lq lc D1 D1.length w8' (HS.out.below HB8.out) HL8.out (by omega)).mono ?_
      rintro e w9 ⟨rfl, hb2⟩
      rw [hra2]
      obtain ⟨wa, hw3⟩ : ∃ w3, w3 = World.alloc w9 (.cells (bysA R1) 22) := ⟨_, rfl⟩
      have hb3 : Below (World.heap w8').size w8' wa := by rw [hw3]; exact hb2.alloc hb2.size _
      have HRB10 : Hid ((World.heap wa)[(World.heap w9).size]? = some (.cells (bysA R1) 22 (0, 0))) := Lib.hid (by rw [hw3]; exact Rg.heap_alloc_at _ _ _ rfl)
      have HB10 : Hid (Below w.heap.size w wa) := Lib.hid (HB8.out.trans (hb3.mono HB8.out.size))
      have HL10 := Lib.hid (HL8.out.below hb3)
      have HLE10 : Hid (Below (World.heap w8').size w8' wa) := Lib.hid hb3
      have hsz10 : (World.heap w8').size ≤ (World.heap w9).size := hb2.size
      have HSZ10 : Hid ((World.heap wa).size = (World.heap w9).size + 1) := Lib.hid (by rw [hw3]; simp)
      have HW3 := Lib.hid hw3
      clear hw3 hb3 hb2
      go_wp2_with (refine Rg.store_row_new rfl 22 _ _ rfl (World.heap w9).size rfl rfl 22 _ (bysA R1) rfl HIR1.out (by rw [bysA_size, HR1L.out]; rfl) (bysA_one _) ?_; refine Hid.out ?_)
      rw [← HW3.out]
      clear HW3
      refine Lib.hid ?_
      have HRAA := Lib.hid (Rp.row_le HLE10.out HRA8.out)
      have HSBA := Lib.hid (Rp.row_le HLE10.out HSB8.out)
      have HPA := Lib.hid (HP8.out.below HLE10.out)
      obtain ⟨tb, htb⟩ : ∃ tb, tb = w9.heap.size := ⟨_, rfl⟩
      rw [← htb] at HRB10 ⊢
      clear htb hsz10 HSZ10 hra2 HLE10 HP8 HB8 HL8 HRA8 HSB8
      have hrl := HRL.out
      go_wp2_with fail
      refine Rc.region (wa.heap.size) 41 [Rc.F 0 (fun _ => .bool true) (fun _ _ _ => True), Rc.F 24 (fun _ => .int .i64 (D1.length : Nat)) (fun _ _ _ => True), Rc.F 34 (fun _ => .int .i64 (D1.length : Nat)) (fun _ _ _ => True), Rc.F 38 (fun _ => .int .i64 0) (fun _ _ _ => True)] [] (by kernel_rfl) (Nat.le_refl _) (by kernel_rfl) ?_; intro p; simp only [List.take, List.drop]
      refine Rc.fK rfl rfl rfl rfl ?_ ?_
      · intro x Fs hx hle hg K hK
        have hbx := HB10.out.trans ((Rc.undrew hx).mono HB10.out.size)
        go_wp2_with fail
        refine (logs_any x (HS.out.below hbx) (HR.out.below hbx)).mono ?_
        rintro e x' ⟨rfl, hb⟩
        go_wp2_with fail
        exact hK Rc.dflt x' hb (fun _ _ _ _ => trivial)
      intro K hK; go_simp; refine hK _ ?_; clear hK K
      iterate 17 (refine Rc.rK rfl rfl ?_; intro K hK; apply Exists.intro; refine ⟨?_, ?_⟩; (focus (intro x hx;  go_simp; (first | (fail) | ((try go_bits); (try go_simp); (try rfl))))); go_simp; refine hK _ ?_; clear hK K)
      refine Rc.r_load rfl rfl _ _ rfl (.agg (bysA R)) (fun x hx => load_whole (Rp.row_le (Rc.undrew hx) HRAA.out) HRL.out) ?_; intro K hK; go_simp; refine hK _ ?_; clear hK K
      refine Rc.r_load rfl rfl _ _ rfl (.agg (bysA R)) (fun x hx => load_whole (Rp.row_le (Rc.undrew hx) HSBA.out) HRL.out) ?_; intro K hK; go_simp; refine hK _ ?_; clear hK K
      iterate 4 (refine Rc.rK rfl rfl ?_; intro K hK; apply Exists.intro; refine ⟨?_, ?_⟩; (focus (intro x hx;  go_simp; (first | (fail) | ((try go_bits); (try go_simp); (try rfl))))); go_simp; refine hK _ ?_; clear hK K)
      refine Rc.fK rfl rfl rfl rfl ?_ ?_
      · intro x Fs hx hle hg K hK
        go_wp2_with fail
        refine (loglen_any lb base lq lc D1 x (HL10.out.below (Rc.undrew hx))).mono ?_
        rintro e x' ⟨rfl, hxx⟩
        subst hxx
        go_wp2_with fail
        exact hK Rc.dflt _ (Below.refl _ _) (fun _ _ _ _ => trivial)
      intro K hK; go_simp; refine hK _ ?_; clear hK K
      iterate 9 (refine Rc.rK rfl rfl ?_; intro K hK; apply Exists.intro; refine ⟨?_, ?_⟩; (focus (intro x hx;  go_simp; (first | (fail) | ((try go_bits); (try go_simp); (try rfl))))); go_simp; refine hK _ ?_; clear hK K)
      refine Rc.fK rfl rfl rfl rfl ?_ ?_
      · intro x Fs hx hle hg K hK
        go_wp2_with fail
        refine (loglen_any lb base lq lc D1 x (HL10.out.below (Rc.undrew hx))).mono ?_
        rintro e x' ⟨rfl, hxx⟩
        subst hxx
        go_wp2_with fail
        exact hK Rc.dflt _ (Below.refl _ _) (fun _ _ _ _ => trivial)
      intro K hK; go_simp; refine hK _ ?_; clear hK K
      iterate 1 (refine Rc.rK rfl rfl ?_; intro K hK; apply Exists.intro; refine ⟨?_, ?_⟩; (focus (intro x hx;  go_simp; (first | (fail) | ((try go_bits); (try go_simp); (try rfl))))); go_simp; refine hK _ ?_; clear hK K)
      refine Rc.r_load rfl rfl _ _ rfl (.agg (bysA R)) (fun x hx => load_whole (Rp.row_le (Rc.undrew hx) HRAA.out) HRL.out) ?_; intro K hK; go_simp; refine hK _ ?_; clear hK K
      refine Rc.r_load rfl rfl _ _ rfl (.agg (bysA R1)) (fun x hx => load_whole (Rp.row_le (Rc.undrew hx) HRB10.out) HR1L.out) ?_; intro K hK; go_simp; refine hK _ ?_; clear hK K
      refine Rc.fK rfl rfl rfl rfl ?_ ?_
      · intro x Fs hx hle hg K hK
        have hbx := HB10.out.trans ((Rc.undrew hx).mono HB10.out.size)
        have hck := checkC_any n D1.length pq pc PP R R1 x (HS.out.below hbx) (HPA.out.below (Rc.undrew hx)) hPl HRL.out HR1L.out hd163
        rw [HCK.out] at hck
        have HCC := Lib.hid hck
        clear hck
        go_wp2_with fail
        refine HCC.out.mono ?_
        rintro e x' ⟨rfl, hb⟩
        go_wp2_with fail
        exact hK Rc.dflt x' hb (fun _ _ _ _ => trivial)
      intro K hK; go_simp; refine hK _ ?_; clear hK K
      iterate 2 (refine Rc.rK rfl rfl ?_; intro K hK; apply Exists.intro; refine ⟨?_, ?_⟩; (focus (intro x hx;  go_simp; (first | (fail) | ((try go_bits); (try go_simp); (try rfl))))); go_simp; refine hK _ ?_; clear hK K)
      refine Rc.done fun x Fs hx hle hg => ?_
      have HX : Hid (Below w.heap.size w x) := Lib.hid (HB10.out.trans ((Rc.undrew hx).mono HB10.out.size))
      clear hx hle hg
      go_wp2_with fail
      refine NoPanic.normal ?_
      go_wp2_with fail
      go_ret
      exact ⟨rfl, HX.out⟩
end Ref
end Go.Proofs.YtkembhonfehlbaaDoor

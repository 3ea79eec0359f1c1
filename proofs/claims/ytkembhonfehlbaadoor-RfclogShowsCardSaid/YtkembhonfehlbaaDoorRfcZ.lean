/- The walk of custumallaw16.RfclogShows. -/
import Derived.Test.YtkembhonfehlbaaDoorRfcY
import Derived.Test.YtkembhonfehlbaaDoorRfcO
namespace Go.Proofs.YtkembhonfehlbaaDoor
open Go.RowKit Bits Mem Sha
namespace Ref
set_option maxRecDepth 100000 in
set_option maxHeartbeats 2000000 in
theorem inclE_any (lb base : Nat) (q : Option Addr) (c : Nat) (D : List (List UInt8)) (i n : Int) (w : World) (h : LogAt w lb base q c D) (hn : n < 1 ∨ (D.length : Int) < n ∨ i < 0 ∨ n ≤ i) :
    Calls Tryd.prog 40 #[.pointer (some ⟨lb, 0, none⟩), .int .i64 i, .int .i64 n] w fun e w' => e = .returned (.tuple #[.slice none 0 0, .int .i64 1]) ∧ w' = w := by
  have HLG := Lib.hid h
  clear h
  by_cases h1 : n < 1
  · clear hn
    go_enter Tryd.func40, Tryd.ntmps40
    go_wp2_with fail
    go_ret2
    exact ⟨rfl, rfl⟩
  · by_cases h2 : (D.length : Int) < n
    · clear hn
      go_enter Tryd.func40, Tryd.ntmps40
      go_wp2_with fail
      refine (loglen_any lb base q c D w HLG.out).mono ?_
      rintro e w0 ⟨rfl, hw0⟩
      subst hw0
      go_wp2_with fail
      go_ret2
      exact ⟨rfl, rfl⟩
    · by_cases h3 : i < 0
      · clear hn
        go_enter Tryd.func40, Tryd.ntmps40
        go_wp2_with fail
        refine (loglen_any lb base q c D w HLG.out).mono ?_
        rintro e w0 ⟨rfl, hw0⟩
        subst hw0
        go_wp2_with fail
        go_ret2
        exact ⟨rfl, rfl⟩
      · have h4 : n ≤ i := by omega
        clear hn
        go_enter Tryd.func40, Tryd.ntmps40
        go_wp2_with fail
        refine (loglen_any lb base q c D w HLG.out).mono ?_
        rintro e w0 ⟨rfl, hw0⟩
        subst hw0
        go_wp2_with fail
        go_ret2
        exact ⟨rfl, rfl⟩
set_option maxRecDepth 100000 in
set_option maxHeartbeats 2000000 in
theorem consE_any (lb base : Nat) (q : Option Addr) (c : Nat) (D : List (List UInt8)) (i n : Int) (w : World) (h : LogAt w lb base q c D) (hn : n < 0 ∨ (D.length : Int) < n ∨ i < 0 ∨ n < i) :
    Calls Tryd.prog 39 #[.pointer (some ⟨lb, 0, none⟩), .int .i64 i, .int .i64 n] w fun e w' => e = .returned (.tuple #[.slice none 0 0, .int .i64 1]) ∧ w' = w := by
  have HLG := Lib.hid h
  clear h
  by_cases h1 : n < 0
  · clear hn
    go_enter Tryd.func39, Tryd.ntmps39
    go_wp2_with fail
    go_ret2
    exact ⟨rfl, rfl⟩
  · by_cases h2 : (D.length : Int) < n
    · clear hn
      go_enter Tryd.func39, Tryd.ntmps39
      go_wp2_with fail
      refine (loglen_any lb base q c D w HLG.out).mono ?_
      rintro e w0 ⟨rfl, hw0⟩
      subst hw0
      go_wp2_with fail
      go_ret2
      exact ⟨rfl, rfl⟩
    · by_cases h3 : i < 0
      · clear hn
        go_enter Tryd.func39, Tryd.ntmps39
        go_wp2_with fail
        refine (loglen_any lb base q c D w HLG.out).mono ?_
        rintro e w0 ⟨rfl, hw0⟩
        subst hw0
        go_wp2_with fail
        go_ret2
        exact ⟨rfl, rfl⟩
      · have h4 : n < i := by omega
        clear hn
        go_enter Tryd.func39, Tryd.ntmps39
        go_wp2_with fail
        refine (loglen_any lb base q c D w HLG.out).mono ?_
        rintro e w0 ⟨rfl, hw0⟩
        subst hw0
        go_wp2_with fail
        go_ret2
        exact ⟨rfl, rfl⟩
/-- What a log tells of an entry is taken. -/
theorem chkI_shows (D : List (List UInt8)) (x : List UInt8) (i n : Nat) (hn : n ≤ D.length) (hin : i < n) (hx : D[i]? = some (leafS x)) : chkI x i n (pathS (D.take n) i) (treeS (D.take n)) = 0 := by
  rw [← chkI_same]
  unfold refchkI
  rw [if_neg (by omega)]
  have hu := Rfc.up_path nodeS (sha []) n (D.take n) i (leafS x) [] (by rw [List.length_take]; omega) (by rw [List.getElem?_take, if_pos hin]; exact hx)
  rw [show ((i : Int)).toNat = i from rfl, show ((n : Int)).toNat = n from rfl]
  have hu' : Rfc.up nodeS (leafS x) i n (pathS (D.take n) i) [] = (treeS (D.take n), true) := hu
  rw [hu']
  exact if_pos ⟨rfl, rfl⟩
theorem pathS_A32 (n : Nat) : ∀ (l : List (List UInt8)) (i : Nat), l.length = n → All32 l → 1 ≤ n → (pathS l i).length ≤ n := fun l i hl _ _ => pathS_len n l i hl
set_option maxRecDepth 100000 in
set_option maxHeartbeats 16000000 in
theorem rfclogShows_any (q : Option Addr) (c : Nat) (L : List (List UInt8)) (i n : Int) (w : World) (hS : Sha.Tabs w) (hR : Ref.Tabs w) (hp : RawParts w (.slice q L.length c) L) :
    Calls Tryd.prog 10 #[.slice q L.length c, .int .i64 i, .int .i64 n] w fun e w' => e = .returned (.bool true) ∧ Below w.heap.size w w' := by
  have HS := Lib.hid hS
  have HR := Lib.hid hR
  have HP := Lib.hid hp
  clear hS hR hp
  go_enter Tryd.func10, Tryd.ntmps10
  go_wp2_with fail
  refine (fill_any q c L w HS.out HP.out).mono ?_
  rintro e w1 ⟨lb, base, lq, lc, qw, cw, rfl, h1, h2, h3, hL, hO, hb1⟩
  obtain ⟨N, hN⟩ : ∃ N, N = few L 20 60 := ⟨_, rfl⟩
  rw [← hN] at hL hO ⊢
  have hN20 : N.length ≤ 20 := by rw [hN, few_length]; omega
  have HN60 : Hid (∀ x ∈ N, x.length ≤ 1000000) := Lib.hid (fun x hx => by
    rw [hN] at hx
    obtain ⟨y, _, rfl⟩ := List.mem_map.1 hx
    rw [List.length_take]
    omega)
  obtain ⟨D, hD⟩ : ∃ D, D = N.map leafS := ⟨_, rfl⟩
  rw [← hD] at hL
  have HDL : Hid (D.length = N.length) := Lib.hid (by rw [hD, List.length_map])
  have HDA : Hid (All32 D) := Lib.hid (by rw [hD]; intro x hx; obtain ⟨y, _, rfl⟩ := List.mem_map.1 hx; exact leafS_length y)
  have hD1000 : D.length ≤ 1000 := by have := HDL.out; omega
  have HDE := Lib.hid hD
  have HB1 := Lib.hid hb1
  have HL1 := Lib.hid hL
  have HO1 := Lib.hid (Rd.of_ow hO)
  have hcw := (Rd_cap (Rd.of_ow hO)).1
  clear hb1 hL hO h1 h2 h3 hN hD HP
  by_cases c1 : n < 0
  · have hA : ¬ 1 ≤ n := by omega
    have hB : ¬ 0 ≤ n := by omega
    as_aux_lemma =>
      go_wp2_with fail
      refine (inclE_any lb base lq lc D i n w1 HL1.out (by have := HDL.out; omega)).mono ?_
      rintro e w2 ⟨rfl, hw2⟩
      subst hw2
      go_wp2_with fail
      refine (consE_any lb base lq lc D i n w2 HL1.out (by have := HDL.out; omega)).mono ?_
      rintro e w3 ⟨rfl, hw3⟩
      subst hw3
      go_wp2_with fail
      refine (logs_any w3 (HS.out.below HB1.out) (HR.out.below HB1.out)).mono ?_
      rintro e w5 ⟨rfl, hb5⟩
      have HB5 : Hid (Below w.heap.size w w5) := Lib.hid (HB1.out.trans (hb5.mono HB1.out.size))
      clear hb5
      go_wp2_with fail
      go_ret
      exact ⟨rfl, HB5.out⟩
  · have hB : 0 ≤ n := by omega
    by_cases c2 : (N.length : Int) < n
    · have hA : 1 ≤ n := by omega
      have hC : ¬ n ≤ (N.length : Int) := by omega
      as_aux_lemma =>
        go_wp2_with fail
        refine (inclE_any lb base lq lc D i n w1 HL1.out (by have := HDL.out; omega)).mono ?_
        rintro e w2 ⟨rfl, hw2⟩
        subst hw2
        go_wp2_with fail
        refine (consE_any lb base lq lc D i n w2 HL1.out (by have := HDL.out; omega)).mono ?_
        rintro e w3 ⟨rfl, hw3⟩
        subst hw3
        go_wp2_with fail
        refine (logs_any w3 (HS.out.below HB1.out) (HR.out.below HB1.out)).mono ?_
        rintro e w5 ⟨rfl, hb5⟩
        have HB5 : Hid (Below w.heap.size w w5) := Lib.hid (HB1.out.trans (hb5.mono HB1.out.size))
        clear hb5
        go_wp2_with fail
        go_ret
        exact ⟨rfl, HB5.out⟩
    · have hC : n ≤ (N.length : Int) := by omega
      by_cases c3 : i < 0
      · have hDD : ¬ 0 ≤ i := by omega
        by_cases hA : 1 ≤ n
        ·
          as_aux_lemma =>
            go_wp2_with fail
            refine (inclE_any lb base lq lc D i n w1 HL1.out (by have := HDL.out; omega)).mono ?_
            rintro e w2 ⟨rfl, hw2⟩
            subst hw2
            go_wp2_with fail
            refine (consE_any lb base lq lc D i n w2 HL1.out (by have := HDL.out; omega)).mono ?_
            rintro e w3 ⟨rfl, hw3⟩
            subst hw3
            go_wp2_with fail
            refine (logs_any w3 (HS.out.below HB1.out) (HR.out.below HB1.out)).mono ?_
            rintro e w5 ⟨rfl, hb5⟩
            have HB5 : Hid (Below w.heap.size w w5) := Lib.hid (HB1.out.trans (hb5.mono HB1.out.size))
            clear hb5
            go_wp2_with fail
            go_ret
            exact ⟨rfl, HB5.out⟩
        ·
          as_aux_lemma =>
            go_wp2_with fail
            refine (inclE_any lb base lq lc D i n w1 HL1.out (by have := HDL.out; omega)).mono ?_
            rintro e w2 ⟨rfl, hw2⟩
            subst hw2
            go_wp2_with fail
            refine (consE_any lb base lq lc D i n w2 HL1.out (by have := HDL.out; omega)).mono ?_
            rintro e w3 ⟨rfl, hw3⟩
            subst hw3
            go_wp2_with fail
            refine (logs_any w3 (HS.out.below HB1.out) (HR.out.below HB1.out)).mono ?_
            rintro e w5 ⟨rfl, hb5⟩
            have HB5 : Hid (Below w.heap.size w w5) := Lib.hid (HB1.out.trans (hb5.mono HB1.out.size))
            clear hb5
            go_wp2_with fail
            go_ret
            exact ⟨rfl, HB5.out⟩
      · have hDD : 0 ≤ i := by omega
        by_cases c4 : n < i
        · have hE : ¬ i < n := by omega
          have hF : ¬ i ≤ n := by omega
          by_cases hA : 1 ≤ n
          ·
            as_aux_lemma =>
              go_wp2_with fail
              refine (inclE_any lb base lq lc D i n w1 HL1.out (by have := HDL.out; omega)).mono ?_
              rintro e w2 ⟨rfl, hw2⟩
              subst hw2
              go_wp2_with fail
              refine (consE_any lb base lq lc D i n w2 HL1.out (by have := HDL.out; omega)).mono ?_
              rintro e w3 ⟨rfl, hw3⟩
              subst hw3
              go_wp2_with fail
              refine (logs_any w3 (HS.out.below HB1.out) (HR.out.below HB1.out)).mono ?_
              rintro e w5 ⟨rfl, hb5⟩
              have HB5 : Hid (Below w.heap.size w w5) := Lib.hid (HB1.out.trans (hb5.mono HB1.out.size))
              clear hb5
              go_wp2_with fail
              go_ret
              exact ⟨rfl, HB5.out⟩
          ·
            as_aux_lemma =>
              go_wp2_with fail
              refine (inclE_any lb base lq lc D i n w1 HL1.out (by have := HDL.out; omega)).mono ?_
              rintro e w2 ⟨rfl, hw2⟩
              subst hw2
              go_wp2_with fail
              refine (consE_any lb base lq lc D i n w2 HL1.out (by have := HDL.out; omega)).mono ?_
              rintro e w3 ⟨rfl, hw3⟩
              subst hw3
              go_wp2_with fail
              refine (logs_any w3 (HS.out.below HB1.out) (HR.out.below HB1.out)).mono ?_
              rintro e w5 ⟨rfl, hb5⟩
              have HB5 : Hid (Below w.heap.size w w5) := Lib.hid (HB1.out.trans (hb5.mono HB1.out.size))
              clear hb5
              go_wp2_with fail
              go_ret
              exact ⟨rfl, HB5.out⟩
        · obtain ⟨a, rfl⟩ : ∃ a : Nat, i = (a : Int) := ⟨i.toNat, by omega⟩
          obtain ⟨b, rfl⟩ : ∃ b : Nat, n = (b : Int) := ⟨n.toNat, by omega⟩
          have hab : a ≤ b := by omega
          have hF : (a : Int) ≤ (b : Int) := by omega
          have hbN : b ≤ N.length := by omega
          have hbD : b ≤ D.length := by have := HDL.out; omega
          have hbc : (b : Int) ≤ (cw : Int) := by omega
          have hbcN : b ≤ cw := by omega
          have hb63 : (b : Int) ≤ 9223372036854775807 := by omega
          obtain ⟨QQ, hQQ⟩ : ∃ QQ, QQ = subS (D.take b) a true := ⟨_, rfl⟩
          have HQQ := Lib.hid hQQ
          have HQE : Hid (subR ((N.take b).map leafS) a true = QQ) := Lib.hid (by rw [hQQ, HDE.out, List.map_take])
          obtain ⟨Rn, hRn⟩ : ∃ Rn, Rn = treeS (D.take b) := ⟨_, rfl⟩
          obtain ⟨Ra, hRa⟩ : ∃ Ra, Ra = treeS (D.take a) := ⟨_, rfl⟩
          have hran : rootAns D b = .tuple #[.agg (bysA Rn), .int .i64 0] := by rw [rootAns_of D b hbD, hRn]
          have hraa : rootAns D a = .tuple #[.agg (bysA Ra), .int .i64 0] := by rw [rootAns_of D a (by omega), hRa]
          have HNL : Hid (Rn.length = 32) := Lib.hid (by rw [hRn]; exact treeS_length _ (HDA.out.take b))
          have HAL : Hid (Ra.length = 32) := Lib.hid (by rw [hRa]; exact treeS_length _ (HDA.out.take a))
          have HIN := Lib.hid (info_of HNL.out)
          have HIA := Lib.hid (info_of HAL.out)
          have HCK : Hid (chkC a b QQ Ra Rn = 0) := Lib.hid (by rw [hQQ, hRa, hRn]; exact chkC_shows D a b hbD hab)
          have hQl : QQ.length ≤ 1000 := by rw [hQQ]; have := subS_len b (D.take b) a true (by rw [List.length_take]; omega); omega
          have HRNE := Lib.hid hRn
          clear hQQ hRn hRa c1 c2 c3 c4 hB hDD
          by_cases hA : 1 ≤ (b : Int)
          · by_cases hE : (a : Int) < (b : Int)
            ·
              as_aux_lemma =>
                have haN : a < b := by omega
                have haNl : a < N.length := by omega
                obtain ⟨PP, hPP⟩ : ∃ PP, PP = pathS (D.take b) a := ⟨_, rfl⟩
                obtain ⟨X, hX⟩ : ∃ X, X = N.getD a [] := ⟨_, rfl⟩
                have hXg : N[a]? = some X := by rw [hX]; simp [List.getD, haNl]
                have HXL : Hid (X.length ≤ 1000000) := Lib.hid (HN60.out X (List.mem_of_getElem? hXg))
                have HCKI : Hid (chkI X a b PP Rn = 0) := Lib.hid (by rw [hPP, HRNE.out]; exact chkI_shows D X a b hbD haN (by rw [HDE.out, List.getElem?_map, hXg]; rfl))
                have HPE : Hid (pathS ((N.take b).map leafS) a = PP) := Lib.hid (by rw [hPP, HDE.out, List.map_take])
                have hPl : PP.length ≤ 1000 := by rw [hPP]; have := pathS_len b (D.take b) a (by rw [List.length_take]; omega); omega
                obtain ⟨bw, ow, hqw, hbw, _, _, hcw2⟩ := Rd_lt HO1.out (by omega)
                subst hqw
                have HPP := Lib.hid hPP
                have HXX := Lib.hid hX
                have hincl := inclusion_any lb base lq lc D a b w1 (HS.out.below HB1.out) HL1.out hD1000 hbD haN (rev_any _)
                rw [show Rfc.path nodeS (sha []) (D.take b) a = PP from hPP.symm] at hincl
                have HINC := Lib.hid hincl
                clear hPP hX hXg hcw2 hincl
                go_wp2_with fail
                refine HINC.out.mono ?_
                rintro e w2 ⟨pq, pc, rfl, hop, hb2⟩
                have HP2 := Lib.hid hop.rd
                have HL2 := Lib.hid (HL1.out.below hb2)
                have HO2 := Lib.hid (HO1.out.below hb2)
                have HB2 : Hid (Below w.heap.size w w2) := Lib.hid (HB1.out.trans (hb2.mono HB1.out.size))
                clear hop hb2 HINC HL1 HO1 HB1 hbw
                go_wp2_with fail
                have hcons := consistency_any lb base lq lc D a b w2 (HS.out.below HB2.out) HL2.out hD1000 hbD hab
                rw [← HQQ.out] at hcons
                refine hcons.mono ?_
                clear hcons
                rintro e w3 ⟨qq, qc, rfl, hop, hb3⟩
                have HQ3 := Lib.hid hop.rd
                have HP3 := Lib.hid (HP2.out.below hb3)
                have HL3 := Lib.hid (HL2.out.below hb3)
                have HO3 := Lib.hid (HO2.out.below hb3)
                have HB3 : Hid (Below w.heap.size w w3) := Lib.hid (HB2.out.trans (hb3.mono HB2.out.size))
                clear hop hb3 HL2 HO2 HB2 HP2
                go_wp2_with fail
                refine (logs_any w3 (HS.out.below HB3.out) (HR.out.below HB3.out)).mono ?_
                rintro e w5 ⟨rfl, hb5⟩
                have HB5 : Hid (Below w.heap.size w w5) := Lib.hid (HB3.out.trans (hb5.mono HB3.out.size))
                have HQ5 := Lib.hid (HQ3.out.below hb5)
                have HP5 := Lib.hid (HP3.out.below hb5)
                have HL5 := Lib.hid (HL3.out.below hb5)
                have HO5 := Lib.hid (HO3.out.below hb5)
                clear hb5 HQ3 HL3 HO3 HB3 HP3
                go_wp2_with fail
                refine (logroot_any lb base lq lc D b w5 (HS.out.below HB5.out) HL5.out (by omega)).mono ?_
                rintro e w5a ⟨rfl, hb2⟩
                rw [hran]
                obtain ⟨w5b, hw3⟩ : ∃ w3, w3 = World.alloc w5a (.cells (bysA Rn) 22) := ⟨_, rfl⟩
                have hb3 : Below (World.heap w5).size w5 w5b := by rw [hw3]; exact hb2.alloc hb2.size _
                have HRBA : Hid ((World.heap w5b)[(World.heap w5a).size]? = some (.cells (bysA Rn) 22 (0, 0))) := Lib.hid (by rw [hw3]; exact Rg.heap_alloc_at _ _ _ rfl)
                have HBA : Hid (Below w.heap.size w w5b) := Lib.hid (HB5.out.trans (hb3.mono HB5.out.size))
                have HLA := Lib.hid (HL5.out.below hb3)
                have HLEA : Hid (Below (World.heap w5).size w5 w5b) := Lib.hid hb3
                have hszA : (World.heap w5).size ≤ (World.heap w5a).size := hb2.size
                have HSZA : Hid ((World.heap w5b).size = (World.heap w5a).size + 1) := Lib.hid (by rw [hw3]; simp)
                have HW3 := Lib.hid hw3
                clear hw3 hb3 hb2
                go_wp2_with (refine Rg.store_row_new rfl 22 _ _ rfl (World.heap w5a).size rfl rfl 22 _ (bysA Rn) rfl HIN.out (by rw [bysA_size, HNL.out]; rfl) (bysA_one _) ?_; refine Hid.out ?_)
                rw [← HW3.out]
                clear HW3
                refine Lib.hid ?_
                have HQA := Lib.hid (HQ5.out.below HLEA.out)
                have HPA := Lib.hid (HP5.out.below HLEA.out)
                have HOA := Lib.hid (HO5.out.below HLEA.out)
                obtain ⟨sb, hsb⟩ : ∃ sb, sb = w5a.heap.size := ⟨_, rfl⟩
                rw [← hsb] at HRBA ⊢
                obtain ⟨bw', ow', hqw', hbw, _, _, hcw2⟩ := Rd_lt HOA.out (by omega)
                obtain ⟨rfl, rfl⟩ : bw = bw' ∧ ow = ow' := by cases hqw'; exact ⟨rfl, rfl⟩
                have cW : w5b.cell? ⟨bw, ow + a, none⟩ = some (.string ⟨X.toArray⟩) := by rw [HXX.out]; exact hcw2 a _ (strs_get haNl)
                clear hsb hszA HSZA HLEA HQ5 HP5 HO5 HL5 HB5 hqw' hcw2
                have HDOCP : Hid (∀ x : World, Below w5b.heap.size w5b x → Calls Tryd.prog 42 #[.slice (some ⟨bw, ow, none⟩) b cw, .int .i64 a] x fun e w' => ∃ q' c', e = .returned (.slice q' PP.length c') ∧ Ow w' x.heap.size 9 1 (.slice q' PP.length c') PP.length (strs PP) ∧ Below x.heap.size x w') := Lib.hid (fun x hx => by
                  have hbx := HBA.out.trans (hx.mono HBA.out.size)
                  have htl : (N.take b).length = b := by rw [List.length_take]; omega
                  have := refpath_any b (N.take b) (some ⟨bw, ow, none⟩) cw a x htl haN (by omega) (fun y hy => HN60.out y (List.mem_of_mem_take hy)) (HR.out.below hbx) (by rw [htl, strs_tk]; exact Rd_take1 (HOA.out.below hx) (by omega))
                  rw [htl] at this
                  have e : pathS ((N.take b).map leafS) a = PP := HPE.out
                  rw [e] at this
                  exact this)
                have haI : (a : Int) < (N.length : Int) := by omega
                go_wp2_with fail
                refine Rc.region (w5b.heap.size) 26 [Rc.F 4 (fun p => .slice p.q PP.length p.c) (fun p _ y => Rd y 1 (.slice p.q PP.length p.c) PP.length (strs PP)), Rc.F 9 (fun p => .slice p.q PP.length p.c) (fun p _ y => Rd y 1 (.slice p.q PP.length p.c) PP.length (strs PP)), Rc.G 10 [4, 9] (fun _ => .bool true) (fun _ _ _ => True), Rc.F 18 (fun p => .slice p.q X.length p.c) (fun p _ y => Rd y 1 (.slice p.q X.length p.c) X.length (bys X)), Rc.G 23 [18] (fun _ => .int .i64 0) (fun _ _ _ => True)] [] (by kernel_rfl) (Nat.le_refl _) (by kernel_rfl) ?_; intro p; simp only [List.take, List.drop]
                iterate 4 (refine Rc.rK rfl rfl ?_; intro K hK; apply Exists.intro; refine ⟨?_, ?_⟩; (focus (intro x hx;  go_simp; (first | (fail) | ((try go_bits); (try go_simp); (try rfl))))); go_simp; refine hK _ ?_; clear hK K)
                refine Rc.fK rfl rfl rfl rfl ?_ ?_
                · intro x Fs hx hle hg K hK
                  have ht := texts16_any pq pc PP x (HPA.out.below (Rc.undrew hx)) (by omega)
                  have HTX := Lib.hid ht
                  clear ht
                  go_wp2_with fail
                  refine HTX.out.mono ?_
                  rintro e x' ⟨v, rfl, how, hb⟩
                  obtain ⟨q', c', rfl⟩ := Ow_form how
                  go_wp2_with fail
                  exact hK ⟨q', c', undef⟩ x' hb (fun F y hF hy => (Rd.of_ow how).keeps hy (fun k hk => .inr (hF k (how.lt k hk).1 (how.lt k hk).2)))
                intro K hK; go_simp; refine hK _ ?_; clear hK K
                iterate 4 (refine Rc.rK rfl rfl ?_; intro K hK; apply Exists.intro; refine ⟨?_, ?_⟩; (focus (intro x hx;  go_simp; (first | (fail) | ((try go_bits); (try go_simp); (try rfl))))); go_simp; refine hK _ ?_; clear hK K)
                refine Rc.fK rfl rfl rfl rfl ?_ ?_
                · intro x Fs hx hle hg K hK
                  have HTX := Lib.hid (HDOCP.out x (Rc.undrew hx))
                  go_wp2_with fail
                  refine HTX.out.mono ?_
                  rintro e x' ⟨q', c', rfl, how, hb⟩
                  go_wp2_with fail
                  exact hK ⟨q', c', undef⟩ x' hb (fun F y hF hy => (Rd.of_ow how).keeps hy (fun k hk => .inr (hF k (how.lt k hk).1 (how.lt k hk).2)))
                intro K hK; go_simp; refine hK _ ?_; clear hK K
                refine Rc.fK rfl rfl rfl rfl ?_ ?_
                · intro x Fs hx hle hg K hK
                  have h1 : Rd x 1 (.slice (p 4).q PP.length (p 4).c) PP.length (strs PP) := hg.1
                  have h2 : Rd x 1 (.slice (p 9).q PP.length (p 9).c) PP.length (strs PP) := hg.2.1
                  have HSA := Lib.hid (refsame_any PP (p 4).q (p 9).q (p 4).c (p 9).c x h1 h2)
                  clear h1 h2 hg
                  go_wp2_with fail
                  refine HSA.out.mono ?_
                  rintro e x' ⟨rfl, hb⟩
                  go_wp2_with fail
                  exact hK Rc.dflt x' hb (fun _ _ _ _ => trivial)
                intro K hK; go_simp; refine hK _ ?_; clear hK K
                iterate 6 (refine Rc.rK rfl rfl ?_; intro K hK; apply Exists.intro; refine ⟨?_, ?_⟩; (focus (intro x hx;  go_simp; (first | (fail) | ((try go_bits); (try go_simp); (try rfl))))); go_simp; refine hK _ ?_; clear hK K)
                iterate 1 (refine Rc.rK rfl rfl ?_; intro K hK; apply Exists.intro; refine ⟨?_, ?_⟩; (focus (intro x hx; have d0 := Rc.cell_le hx hbw cW; go_simp; (first | (fail) | ((try go_bits); (try go_simp); (try rfl))))); go_simp; refine hK _ ?_; clear hK K)
                refine Rc.fK rfl rfl rfl rfl ?_ ?_
                · intro x Fs hx hle hg K hK
                  refine unguard16 (by rfl) ?_
                  refine conv_bytes rfl 9 23 _ rfl 5 Tryd.underlying9 Tryd.underlying23 Tryd.underlying5 ⟨X.toArray⟩ rfl x.heap.size (Nat.le_refl _) (by show X.length ≤ maxLen; have := HXL.out; unfold maxLen; omega) ?_
                  intro v x' how hb
                  have how : Ow x' x.heap.size 5 1 v X.length (bys X) := how
                  obtain ⟨q', c', rfl⟩ := Ow_form how
                  go_wp2_with fail
                  exact hK ⟨q', c', undef⟩ x' hb (fun F y hF hy => (Rd.of_ow how).keeps hy (fun k hk => .inr (hF k (how.lt k hk).1 (how.lt k hk).2)))
                intro K hK; go_simp; refine hK _ ?_; clear hK K
                iterate 3 (refine Rc.rK rfl rfl ?_; intro K hK; apply Exists.intro; refine ⟨?_, ?_⟩; (focus (intro x hx;  go_simp; (first | (fail) | ((try go_bits); (try go_simp); (try rfl))))); go_simp; refine hK _ ?_; clear hK K)
                refine Rc.r_load rfl rfl _ _ rfl (.agg (bysA Rn)) (fun x hx => load_whole (Rp.row_le (Rc.undrew hx) HRBA.out) HNL.out) ?_; intro K hK; go_simp; refine hK _ ?_; clear hK K
                refine Rc.fK rfl rfl rfl rfl ?_ ?_
                · intro x Fs hx hle hg K hK
                  have hbx : Below w.heap.size w x := HBA.out.trans ((Rc.undrew hx).mono HBA.out.size)
                  have hck := (by rw [← HCKI.out]; exact checkI_any (p 18).q (p 18).c X a b pq pc PP Rn x (HS.out.below hbx) hg.1 HXL.out (HPA.out.below (Rc.undrew hx)) HNL.out hb63 : Calls Tryd.prog 35 #[.slice (p 18).q X.length (p 18).c, .int .i64 a, .int .i64 b, .slice pq PP.length pc, .agg (bysA Rn)] x fun e w' => e = .returned (.int .i64 0) ∧ Below x.heap.size x w')
                  have HCC := Lib.hid hck
                  clear hck hg
                  go_wp2_with fail
                  refine HCC.out.mono ?_
                  rintro e x' ⟨rfl, hb⟩
                  go_wp2_with fail
                  exact hK Rc.dflt x' hb (fun _ _ _ _ => trivial)
                intro K hK; go_simp; refine hK _ ?_; clear hK K
                iterate 2 (refine Rc.rK rfl rfl ?_; intro K hK; apply Exists.intro; refine ⟨?_, ?_⟩; (focus (intro x hx;  go_simp; (first | (fail) | ((try go_bits); (try go_simp); (try rfl))))); go_simp; refine hK _ ?_; clear hK K)
                refine Rc.done fun wE Fs hx hle hg => ?_
                have hbe := Rc.undrew hx
                have HBE : Hid (Below w.heap.size w wE) := Lib.hid (HBA.out.trans (hbe.mono HBA.out.size))
                have HLE := Lib.hid (HLA.out.below hbe)
                have HQE9 := Lib.hid (HQA.out.below hbe)
                have HOE := Lib.hid (HOA.out.below hbe)
                clear hx hle hg cW hbe HQA HPA HOA HRBA HLA HBA hbw
                go_wp2_with fail
                refine NoPanic.normal ?_
                obtain ⟨qw, hqw⟩ : ∃ qw : Option Addr, qw = some ⟨bw, ow, none⟩ := ⟨_, rfl⟩
                rw [← hqw] at HOE ⊢
                clear hqw
                go_wp2_with fail
                refine (logroot_any lb base lq lc D b wE (HS.out.below HBE.out) HLE.out (by omega)).mono ?_
                rintro e w6 ⟨rfl, hb2⟩
                rw [hran]
                obtain ⟨w7, hw3⟩ : ∃ w3, w3 = World.alloc w6 (.cells (bysA Rn) 22) := ⟨_, rfl⟩
                have hb3 : Below (World.heap wE).size wE w7 := by rw [hw3]; exact hb2.alloc hb2.size _
                have HRB7 : Hid ((World.heap w7)[(World.heap w6).size]? = some (.cells (bysA Rn) 22 (0, 0))) := Lib.hid (by rw [hw3]; exact Rg.heap_alloc_at _ _ _ rfl)
                have HB7 : Hid (Below w.heap.size w w7) := Lib.hid (HBE.out.trans (hb3.mono HBE.out.size))
                have HL7 := Lib.hid (HLE.out.below hb3)
                have HLE7 : Hid (Below (World.heap wE).size wE w7) := Lib.hid hb3
                have hsz7 : (World.heap wE).size ≤ (World.heap w6).size := hb2.size
                have HSZ7 : Hid ((World.heap w7).size = (World.heap w6).size + 1) := Lib.hid (by rw [hw3]; simp)
                have HW3 := Lib.hid hw3
                clear hw3 hb3 hb2
                go_wp2_with (refine Rg.store_row_new rfl 22 _ _ rfl (World.heap w6).size rfl rfl 22 _ (bysA Rn) rfl HIN.out (by rw [bysA_size, HNL.out]; rfl) (bysA_one _) ?_; refine Hid.out ?_)
                rw [← HW3.out]
                clear HW3
                refine Lib.hid ?_
                have HQ7 := Lib.hid (HQE9.out.below HLE7.out)
                have HO7 := Lib.hid (HOE.out.below HLE7.out)
                obtain ⟨rb, hrb⟩ : ∃ rb, rb = w6.heap.size := ⟨_, rfl⟩
                rw [← hrb] at HRB7 ⊢
                clear hrb hsz7 HSZ7 HLE7
                go_wp2_with fail
                refine (logroot_any lb base lq lc D a w7 (HS.out.below HB7.out) HL7.out (by omega)).mono ?_
                rintro e w8 ⟨rfl, hb2⟩
                rw [hraa]
                obtain ⟨w9, hw3⟩ : ∃ w3, w3 = World.alloc w8 (.cells (bysA Ra) 22) := ⟨_, rfl⟩
                have hb3 : Below (World.heap w7).size w7 w9 := by rw [hw3]; exact hb2.alloc hb2.size _
                have HRB9 : Hid ((World.heap w9)[(World.heap w8).size]? = some (.cells (bysA Ra) 22 (0, 0))) := Lib.hid (by rw [hw3]; exact Rg.heap_alloc_at _ _ _ rfl)
                have HB9 : Hid (Below w.heap.size w w9) := Lib.hid (HB7.out.trans (hb3.mono HB7.out.size))
                have HL9 := Lib.hid (HL7.out.below hb3)
                have HLE9 : Hid (Below (World.heap w7).size w7 w9) := Lib.hid hb3
                have hsz9 : (World.heap w7).size ≤ (World.heap w8).size := hb2.size
                have HSZ9 : Hid ((World.heap w9).size = (World.heap w8).size + 1) := Lib.hid (by rw [hw3]; simp)
                have HW3 := Lib.hid hw3
                clear hw3 hb3 hb2
                go_wp2_with (refine Rg.store_row_new rfl 22 _ _ rfl (World.heap w8).size rfl rfl 22 _ (bysA Ra) rfl HIA.out (by rw [bysA_size, HAL.out]; rfl) (bysA_one _) ?_; refine Hid.out ?_)
                rw [← HW3.out]
                clear HW3
                refine Lib.hid ?_
                have HQ9 := Lib.hid (HQ7.out.below HLE9.out)
                have HO9 := Lib.hid (HO7.out.below HLE9.out)
                have HRN9 := Lib.hid (Rp.row_le HLE9.out HRB7.out)
                obtain ⟨ob, hob⟩ : ∃ ob, ob = w8.heap.size := ⟨_, rfl⟩
                rw [← hob] at HRB9 ⊢
                clear hob hsz9 HSZ9 HLE9 HQ7 HO7 HRB7
                have HDOC : Hid (∀ x : World, Below w9.heap.size w9 x → Calls Tryd.prog 43 #[.slice qw b cw, .int .i64 a] x fun e w' => ∃ q' c', e = .returned (.slice q' QQ.length c') ∧ Ow w' x.heap.size 9 1 (.slice q' QQ.length c') QQ.length (strs QQ) ∧ Below x.heap.size x w') := Lib.hid (fun x hx => by
                  have hbx := HB9.out.trans (hx.mono HB9.out.size)
                  have htl : (N.take b).length = b := by rw [List.length_take]; omega
                  have := refcons_any (N.take b) qw cw a x (by omega) (by omega) (fun y hy => HN60.out y (List.mem_of_mem_take hy)) (HR.out.below hbx) (by rw [htl, strs_tk]; exact Rd_take1 (HO9.out.below hx) (by omega))
                  rw [htl] at this
                  have e : subR ((N.take b).map leafS) a true = QQ := HQE.out
                  rw [e] at this
                  exact this)
                go_wp2_with fail
                refine Rc.region (w9.heap.size) 25 [Rc.F 8 (fun p => .slice p.q QQ.length p.c) (fun p _ y => Rd y 1 (.slice p.q QQ.length p.c) QQ.length (strs QQ)), Rc.F 13 (fun p => .slice p.q QQ.length p.c) (fun p _ y => Rd y 1 (.slice p.q QQ.length p.c) QQ.length (strs QQ)), Rc.G 14 [8, 13] (fun _ => .bool true) (fun _ _ _ => True), Rc.F 22 (fun _ => .int .i64 0) (fun _ _ _ => True)] [] (by kernel_rfl) (Nat.le_refl _) (by kernel_rfl) ?_; intro p; simp only [List.take, List.drop]
                iterate 8 (refine Rc.rK rfl rfl ?_; intro K hK; apply Exists.intro; refine ⟨?_, ?_⟩; (focus (intro x hx;  go_simp; (first | (fail) | ((try go_bits); (try go_simp); (try rfl))))); go_simp; refine hK _ ?_; clear hK K)
                refine Rc.fK rfl rfl rfl rfl ?_ ?_
                · intro x Fs hx hle hg K hK
                  have ht := texts16_any qq qc QQ x (HQ9.out.below (Rc.undrew hx)) (by omega)
                  have HTX := Lib.hid ht
                  clear ht
                  go_wp2_with fail
                  refine HTX.out.mono ?_
                  rintro e x' ⟨v, rfl, how, hb⟩
                  obtain ⟨q', c', rfl⟩ := Ow_form how
                  go_wp2_with fail
                  exact hK ⟨q', c', undef⟩ x' hb (fun F y hF hy => (Rd.of_ow how).keeps hy (fun k hk => .inr (hF k (how.lt k hk).1 (how.lt k hk).2)))
                intro K hK; go_simp; refine hK _ ?_; clear hK K
                iterate 4 (refine Rc.rK rfl rfl ?_; intro K hK; apply Exists.intro; refine ⟨?_, ?_⟩; (focus (intro x hx;  go_simp; (first | (fail) | ((try go_bits); (try go_simp); (try rfl))))); go_simp; refine hK _ ?_; clear hK K)
                refine Rc.fK rfl rfl rfl rfl ?_ ?_
                · intro x Fs hx hle hg K hK
                  have HTX := Lib.hid (HDOC.out x (Rc.undrew hx))
                  go_wp2_with fail
                  refine HTX.out.mono ?_
                  rintro e x' ⟨q', c', rfl, how, hb⟩
                  go_wp2_with fail
                  exact hK ⟨q', c', undef⟩ x' hb (fun F y hF hy => (Rd.of_ow how).keeps hy (fun k hk => .inr (hF k (how.lt k hk).1 (how.lt k hk).2)))
                intro K hK; go_simp; refine hK _ ?_; clear hK K
                refine Rc.fK rfl rfl rfl rfl ?_ ?_
                · intro x Fs hx hle hg K hK
                  have h1 : Rd x 1 (.slice (p 8).q QQ.length (p 8).c) QQ.length (strs QQ) := hg.1
                  have h2 : Rd x 1 (.slice (p 13).q QQ.length (p 13).c) QQ.length (strs QQ) := hg.2.1
                  have HSA := Lib.hid (refsame_any QQ (p 8).q (p 13).q (p 8).c (p 13).c x h1 h2)
                  clear h1 h2 hg
                  go_wp2_with fail
                  refine HSA.out.mono ?_
                  rintro e x' ⟨rfl, hb⟩
                  go_wp2_with fail
                  exact hK Rc.dflt x' hb (fun _ _ _ _ => trivial)
                intro K hK; go_simp; refine hK _ ?_; clear hK K
                iterate 5 (refine Rc.rK rfl rfl ?_; intro K hK; apply Exists.intro; refine ⟨?_, ?_⟩; (focus (intro x hx;  go_simp; (first | (fail) | ((try go_bits); (try go_simp); (try rfl))))); go_simp; refine hK _ ?_; clear hK K)
                refine Rc.r_load rfl rfl _ _ rfl (.agg (bysA Ra)) (fun x hx => load_whole (Rp.row_le (Rc.undrew hx) HRB9.out) HAL.out) ?_; intro K hK; go_simp; refine hK _ ?_; clear hK K
                refine Rc.r_load rfl rfl _ _ rfl (.agg (bysA Rn)) (fun x hx => load_whole (Rp.row_le (Rc.undrew hx) HRN9.out) HNL.out) ?_; intro K hK; go_simp; refine hK _ ?_; clear hK K
                refine Rc.fK rfl rfl rfl rfl ?_ ?_
                · intro x Fs hx hle hg K hK
                  have hbx : Below w.heap.size w x := HB9.out.trans ((Rc.undrew hx).mono HB9.out.size)
                  have hck := (by rw [← HCK.out]; exact checkC_any a b qq qc QQ Ra Rn x (HS.out.below hbx) (HQ9.out.below (Rc.undrew hx)) hQl HAL.out HNL.out hb63 : Calls Tryd.prog 36 #[.int .i64 a, .int .i64 b, .slice qq QQ.length qc, .agg (bysA Ra), .agg (bysA Rn)] x fun e w' => e = .returned (.int .i64 0) ∧ Below x.heap.size x w')
                  have HCC := Lib.hid hck
                  clear hck hg
                  go_wp2_with fail
                  refine HCC.out.mono ?_
                  rintro e x' ⟨rfl, hb⟩
                  go_wp2_with fail
                  exact hK Rc.dflt x' hb (fun _ _ _ _ => trivial)
                intro K hK; go_simp; refine hK _ ?_; clear hK K
                iterate 2 (refine Rc.rK rfl rfl ?_; intro K hK; apply Exists.intro; refine ⟨?_, ?_⟩; (focus (intro x hx;  go_simp; (first | (fail) | ((try go_bits); (try go_simp); (try rfl))))); go_simp; refine hK _ ?_; clear hK K)
                refine Rc.done fun x Fs hx hle hg => ?_
                have HX : Hid (Below w.heap.size w x) := Lib.hid (HB9.out.trans ((Rc.undrew hx).mono HB9.out.size))
                clear hx hle hg
                go_wp2_with fail
                refine NoPanic.normal ?_
                go_wp2_with fail
                go_ret
                exact ⟨rfl, HX.out⟩
            ·
              as_aux_lemma =>
                go_wp2_with fail
                refine (inclE_any lb base lq lc D a b w1 HL1.out (by have := HDL.out; omega)).mono ?_
                rintro e w2 ⟨rfl, hw2⟩
                subst hw2
                go_wp2_with fail
                have hcons := consistency_any lb base lq lc D a b w2 (HS.out.below HB1.out) HL1.out hD1000 hbD hab
                rw [← HQQ.out] at hcons
                refine hcons.mono ?_
                clear hcons
                rintro e w3 ⟨qq, qc, rfl, hop, hb3⟩
                have HQ3 := Lib.hid hop.rd
                have HL3 := Lib.hid (HL1.out.below hb3)
                have HO3 := Lib.hid (HO1.out.below hb3)
                have HB3 : Hid (Below w.heap.size w w3) := Lib.hid (HB1.out.trans (hb3.mono HB1.out.size))
                clear hop hb3 HL1 HO1 HB1
                go_wp2_with fail
                refine (logs_any w3 (HS.out.below HB3.out) (HR.out.below HB3.out)).mono ?_
                rintro e w5 ⟨rfl, hb5⟩
                have HB5 : Hid (Below w.heap.size w w5) := Lib.hid (HB3.out.trans (hb5.mono HB3.out.size))
                have HQ5 := Lib.hid (HQ3.out.below hb5)
                have HL5 := Lib.hid (HL3.out.below hb5)
                have HO5 := Lib.hid (HO3.out.below hb5)
                clear hb5 HQ3 HL3 HO3 HB3
                go_wp2_with fail
                refine (logroot_any lb base lq lc D b w5 (HS.out.below HB5.out) HL5.out (by omega)).mono ?_
                rintro e w6 ⟨rfl, hb2⟩
                rw [hran]
                obtain ⟨w7, hw3⟩ : ∃ w3, w3 = World.alloc w6 (.cells (bysA Rn) 22) := ⟨_, rfl⟩
                have hb3 : Below (World.heap w5).size w5 w7 := by rw [hw3]; exact hb2.alloc hb2.size _
                have HRB7 : Hid ((World.heap w7)[(World.heap w6).size]? = some (.cells (bysA Rn) 22 (0, 0))) := Lib.hid (by rw [hw3]; exact Rg.heap_alloc_at _ _ _ rfl)
                have HB7 : Hid (Below w.heap.size w w7) := Lib.hid (HB5.out.trans (hb3.mono HB5.out.size))
                have HL7 := Lib.hid (HL5.out.below hb3)
                have HLE7 : Hid (Below (World.heap w5).size w5 w7) := Lib.hid hb3
                have hsz7 : (World.heap w5).size ≤ (World.heap w6).size := hb2.size
                have HSZ7 : Hid ((World.heap w7).size = (World.heap w6).size + 1) := Lib.hid (by rw [hw3]; simp)
                have HW3 := Lib.hid hw3
                clear hw3 hb3 hb2
                go_wp2_with (refine Rg.store_row_new rfl 22 _ _ rfl (World.heap w6).size rfl rfl 22 _ (bysA Rn) rfl HIN.out (by rw [bysA_size, HNL.out]; rfl) (bysA_one _) ?_; refine Hid.out ?_)
                rw [← HW3.out]
                clear HW3
                refine Lib.hid ?_
                have HQ7 := Lib.hid (HQ5.out.below HLE7.out)
                have HO7 := Lib.hid (HO5.out.below HLE7.out)
                obtain ⟨rb, hrb⟩ : ∃ rb, rb = w6.heap.size := ⟨_, rfl⟩
                rw [← hrb] at HRB7 ⊢
                clear hrb hsz7 HSZ7 HLE7
                go_wp2_with fail
                refine (logroot_any lb base lq lc D a w7 (HS.out.below HB7.out) HL7.out (by omega)).mono ?_
                rintro e w8 ⟨rfl, hb2⟩
                rw [hraa]
                obtain ⟨w9, hw3⟩ : ∃ w3, w3 = World.alloc w8 (.cells (bysA Ra) 22) := ⟨_, rfl⟩
                have hb3 : Below (World.heap w7).size w7 w9 := by rw [hw3]; exact hb2.alloc hb2.size _
                have HRB9 : Hid ((World.heap w9)[(World.heap w8).size]? = some (.cells (bysA Ra) 22 (0, 0))) := Lib.hid (by rw [hw3]; exact Rg.heap_alloc_at _ _ _ rfl)
                have HB9 : Hid (Below w.heap.size w w9) := Lib.hid (HB7.out.trans (hb3.mono HB7.out.size))
                have HL9 := Lib.hid (HL7.out.below hb3)
                have HLE9 : Hid (Below (World.heap w7).size w7 w9) := Lib.hid hb3
                have hsz9 : (World.heap w7).size ≤ (World.heap w8).size := hb2.size
                have HSZ9 : Hid ((World.heap w9).size = (World.heap w8).size + 1) := Lib.hid (by rw [hw3]; simp)
                have HW3 := Lib.hid hw3
                clear hw3 hb3 hb2
                go_wp2_with (refine Rg.store_row_new rfl 22 _ _ rfl (World.heap w8).size rfl rfl 22 _ (bysA Ra) rfl HIA.out (by rw [bysA_size, HAL.out]; rfl) (bysA_one _) ?_; refine Hid.out ?_)
                rw [← HW3.out]
                clear HW3
                refine Lib.hid ?_
                have HQ9 := Lib.hid (HQ7.out.below HLE9.out)
                have HO9 := Lib.hid (HO7.out.below HLE9.out)
                have HRN9 := Lib.hid (Rp.row_le HLE9.out HRB7.out)
                obtain ⟨ob, hob⟩ : ∃ ob, ob = w8.heap.size := ⟨_, rfl⟩
                rw [← hob] at HRB9 ⊢
                clear hob hsz9 HSZ9 HLE9 HQ7 HO7 HRB7
                have HDOC : Hid (∀ x : World, Below w9.heap.size w9 x → Calls Tryd.prog 43 #[.slice qw b cw, .int .i64 a] x fun e w' => ∃ q' c', e = .returned (.slice q' QQ.length c') ∧ Ow w' x.heap.size 9 1 (.slice q' QQ.length c') QQ.length (strs QQ) ∧ Below x.heap.size x w') := Lib.hid (fun x hx => by
                  have hbx := HB9.out.trans (hx.mono HB9.out.size)
                  have htl : (N.take b).length = b := by rw [List.length_take]; omega
                  have := refcons_any (N.take b) qw cw a x (by omega) (by omega) (fun y hy => HN60.out y (List.mem_of_mem_take hy)) (HR.out.below hbx) (by rw [htl, strs_tk]; exact Rd_take1 (HO9.out.below hx) (by omega))
                  rw [htl] at this
                  have e : subR ((N.take b).map leafS) a true = QQ := HQE.out
                  rw [e] at this
                  exact this)
                go_wp2_with fail
                refine Rc.region (w9.heap.size) 25 [Rc.F 8 (fun p => .slice p.q QQ.length p.c) (fun p _ y => Rd y 1 (.slice p.q QQ.length p.c) QQ.length (strs QQ)), Rc.F 13 (fun p => .slice p.q QQ.length p.c) (fun p _ y => Rd y 1 (.slice p.q QQ.length p.c) QQ.length (strs QQ)), Rc.G 14 [8, 13] (fun _ => .bool true) (fun _ _ _ => True), Rc.F 22 (fun _ => .int .i64 0) (fun _ _ _ => True)] [] (by kernel_rfl) (Nat.le_refl _) (by kernel_rfl) ?_; intro p; simp only [List.take, List.drop]
                iterate 8 (refine Rc.rK rfl rfl ?_; intro K hK; apply Exists.intro; refine ⟨?_, ?_⟩; (focus (intro x hx;  go_simp; (first | (fail) | ((try go_bits); (try go_simp); (try rfl))))); go_simp; refine hK _ ?_; clear hK K)
                refine Rc.fK rfl rfl rfl rfl ?_ ?_
                · intro x Fs hx hle hg K hK
                  have ht := texts16_any qq qc QQ x (HQ9.out.below (Rc.undrew hx)) (by omega)
                  have HTX := Lib.hid ht
                  clear ht
                  go_wp2_with fail
                  refine HTX.out.mono ?_
                  rintro e x' ⟨v, rfl, how, hb⟩
                  obtain ⟨q', c', rfl⟩ := Ow_form how
                  go_wp2_with fail
                  exact hK ⟨q', c', undef⟩ x' hb (fun F y hF hy => (Rd.of_ow how).keeps hy (fun k hk => .inr (hF k (how.lt k hk).1 (how.lt k hk).2)))
                intro K hK; go_simp; refine hK _ ?_; clear hK K
                iterate 4 (refine Rc.rK rfl rfl ?_; intro K hK; apply Exists.intro; refine ⟨?_, ?_⟩; (focus (intro x hx;  go_simp; (first | (fail) | ((try go_bits); (try go_simp); (try rfl))))); go_simp; refine hK _ ?_; clear hK K)
                refine Rc.fK rfl rfl rfl rfl ?_ ?_
                · intro x Fs hx hle hg K hK
                  have HTX := Lib.hid (HDOC.out x (Rc.undrew hx))
                  go_wp2_with fail
                  refine HTX.out.mono ?_
                  rintro e x' ⟨q', c', rfl, how, hb⟩
                  go_wp2_with fail
                  exact hK ⟨q', c', undef⟩ x' hb (fun F y hF hy => (Rd.of_ow how).keeps hy (fun k hk => .inr (hF k (how.lt k hk).1 (how.lt k hk).2)))
                intro K hK; go_simp; refine hK _ ?_; clear hK K
                refine Rc.fK rfl rfl rfl rfl ?_ ?_
                · intro x Fs hx hle hg K hK
                  have h1 : Rd x 1 (.slice (p 8).q QQ.length (p 8).c) QQ.length (strs QQ) := hg.1
                  have h2 : Rd x 1 (.slice (p 13).q QQ.length (p 13).c) QQ.length (strs QQ) := hg.2.1
                  have HSA := Lib.hid (refsame_any QQ (p 8).q (p 13).q (p 8).c (p 13).c x h1 h2)
                  clear h1 h2 hg
                  go_wp2_with fail
                  refine HSA.out.mono ?_
                  rintro e x' ⟨rfl, hb⟩
                  go_wp2_with fail
                  exact hK Rc.dflt x' hb (fun _ _ _ _ => trivial)
                intro K hK; go_simp; refine hK _ ?_; clear hK K
                iterate 5 (refine Rc.rK rfl rfl ?_; intro K hK; apply Exists.intro; refine ⟨?_, ?_⟩; (focus (intro x hx;  go_simp; (first | (fail) | ((try go_bits); (try go_simp); (try rfl))))); go_simp; refine hK _ ?_; clear hK K)
                refine Rc.r_load rfl rfl _ _ rfl (.agg (bysA Ra)) (fun x hx => load_whole (Rp.row_le (Rc.undrew hx) HRB9.out) HAL.out) ?_; intro K hK; go_simp; refine hK _ ?_; clear hK K
                refine Rc.r_load rfl rfl _ _ rfl (.agg (bysA Rn)) (fun x hx => load_whole (Rp.row_le (Rc.undrew hx) HRN9.out) HNL.out) ?_; intro K hK; go_simp; refine hK _ ?_; clear hK K
                refine Rc.fK rfl rfl rfl rfl ?_ ?_
                · intro x Fs hx hle hg K hK
                  have hbx : Below w.heap.size w x := HB9.out.trans ((Rc.undrew hx).mono HB9.out.size)
                  have hck := (by rw [← HCK.out]; exact checkC_any a b qq qc QQ Ra Rn x (HS.out.below hbx) (HQ9.out.below (Rc.undrew hx)) hQl HAL.out HNL.out hb63 : Calls Tryd.prog 36 #[.int .i64 a, .int .i64 b, .slice qq QQ.length qc, .agg (bysA Ra), .agg (bysA Rn)] x fun e w' => e = .returned (.int .i64 0) ∧ Below x.heap.size x w')
                  have HCC := Lib.hid hck
                  clear hck hg
                  go_wp2_with fail
                  refine HCC.out.mono ?_
                  rintro e x' ⟨rfl, hb⟩
                  go_wp2_with fail
                  exact hK Rc.dflt x' hb (fun _ _ _ _ => trivial)
                intro K hK; go_simp; refine hK _ ?_; clear hK K
                iterate 2 (refine Rc.rK rfl rfl ?_; intro K hK; apply Exists.intro; refine ⟨?_, ?_⟩; (focus (intro x hx;  go_simp; (first | (fail) | ((try go_bits); (try go_simp); (try rfl))))); go_simp; refine hK _ ?_; clear hK K)
                refine Rc.done fun x Fs hx hle hg => ?_
                have HX : Hid (Below w.heap.size w x) := Lib.hid (HB9.out.trans ((Rc.undrew hx).mono HB9.out.size))
                clear hx hle hg
                go_wp2_with fail
                refine NoPanic.normal ?_
                go_wp2_with fail
                go_ret
                exact ⟨rfl, HX.out⟩
          ·
            as_aux_lemma =>
              go_wp2_with fail
              refine (inclE_any lb base lq lc D a b w1 HL1.out (by have := HDL.out; omega)).mono ?_
              rintro e w2 ⟨rfl, hw2⟩
              subst hw2
              go_wp2_with fail
              have hcons := consistency_any lb base lq lc D a b w2 (HS.out.below HB1.out) HL1.out hD1000 hbD hab
              rw [← HQQ.out] at hcons
              refine hcons.mono ?_
              clear hcons
              rintro e w3 ⟨qq, qc, rfl, hop, hb3⟩
              have HQ3 := Lib.hid hop.rd
              have HL3 := Lib.hid (HL1.out.below hb3)
              have HO3 := Lib.hid (HO1.out.below hb3)
              have HB3 : Hid (Below w.heap.size w w3) := Lib.hid (HB1.out.trans (hb3.mono HB1.out.size))
              clear hop hb3 HL1 HO1 HB1
              go_wp2_with fail
              refine (logs_any w3 (HS.out.below HB3.out) (HR.out.below HB3.out)).mono ?_
              rintro e w5 ⟨rfl, hb5⟩
              have HB5 : Hid (Below w.heap.size w w5) := Lib.hid (HB3.out.trans (hb5.mono HB3.out.size))
              have HQ5 := Lib.hid (HQ3.out.below hb5)
              have HL5 := Lib.hid (HL3.out.below hb5)
              have HO5 := Lib.hid (HO3.out.below hb5)
              clear hb5 HQ3 HL3 HO3 HB3
              go_wp2_with fail
              refine (logroot_any lb base lq lc D b w5 (HS.out.below HB5.out) HL5.out (by omega)).mono ?_
              rintro e w6 ⟨rfl, hb2⟩
              rw [hran]
              obtain ⟨w7, hw3⟩ : ∃ w3, w3 = World.alloc w6 (.cells (bysA Rn) 22) := ⟨_, rfl⟩
              have hb3 : Below (World.heap w5).size w5 w7 := by rw [hw3]; exact hb2.alloc hb2.size _
              have HRB7 : Hid ((World.heap w7)[(World.heap w6).size]? = some (.cells (bysA Rn) 22 (0, 0))) := Lib.hid (by rw [hw3]; exact Rg.heap_alloc_at _ _ _ rfl)
              have HB7 : Hid (Below w.heap.size w w7) := Lib.hid (HB5.out.trans (hb3.mono HB5.out.size))
              have HL7 := Lib.hid (HL5.out.below hb3)
              have HLE7 : Hid (Below (World.heap w5).size w5 w7) := Lib.hid hb3
              have hsz7 : (World.heap w5).size ≤ (World.heap w6).size := hb2.size
              have HSZ7 : Hid ((World.heap w7).size = (World.heap w6).size + 1) := Lib.hid (by rw [hw3]; simp)
              have HW3 := Lib.hid hw3
              clear hw3 hb3 hb2
              go_wp2_with (refine Rg.store_row_new rfl 22 _ _ rfl (World.heap w6).size rfl rfl 22 _ (bysA Rn) rfl HIN.out (by rw [bysA_size, HNL.out]; rfl) (bysA_one _) ?_; refine Hid.out ?_)
              rw [← HW3.out]
              clear HW3
              refine Lib.hid ?_
              have HQ7 := Lib.hid (HQ5.out.below HLE7.out)
              have HO7 := Lib.hid (HO5.out.below HLE7.out)
              obtain ⟨rb, hrb⟩ : ∃ rb, rb = w6.heap.size := ⟨_, rfl⟩
              rw [← hrb] at HRB7 ⊢
              clear hrb hsz7 HSZ7 HLE7
              go_wp2_with fail
              refine (logroot_any lb base lq lc D a w7 (HS.out.below HB7.out) HL7.out (by omega)).mono ?_
              rintro e w8 ⟨rfl, hb2⟩
              rw [hraa]
              obtain ⟨w9, hw3⟩ : ∃ w3, w3 = World.alloc w8 (.cells (bysA Ra) 22) := ⟨_, rfl⟩
              have hb3 : Below (World.heap w7).size w7 w9 := by rw [hw3]; exact hb2.alloc hb2.size _
              have HRB9 : Hid ((World.heap w9)[(World.heap w8).size]? = some (.cells (bysA Ra) 22 (0, 0))) := Lib.hid (by rw [hw3]; exact Rg.heap_alloc_at _ _ _ rfl)
              have HB9 : Hid (Below w.heap.size w w9) := Lib.hid (HB7.out.trans (hb3.mono HB7.out.size))
              have HL9 := Lib.hid (HL7.out.below hb3)
              have HLE9 : Hid (Below (World.heap w7).size w7 w9) := Lib.hid hb3
              have hsz9 : (World.heap w7).size ≤ (World.heap w8).size := hb2.size
              have HSZ9 : Hid ((World.heap w9).size = (World.heap w8).size + 1) := Lib.hid (by rw [hw3]; simp)
              have HW3 := Lib.hid hw3
              clear hw3 hb3 hb2
              go_wp2_with (refine Rg.store_row_new rfl 22 _ _ rfl (World.heap w8).size rfl rfl 22 _ (bysA Ra) rfl HIA.out (by rw [bysA_size, HAL.out]; rfl) (bysA_one _) ?_; refine Hid.out ?_)
              rw [← HW3.out]
              clear HW3
              refine Lib.hid ?_
              have HQ9 := Lib.hid (HQ7.out.below HLE9.out)
              have HO9 := Lib.hid (HO7.out.below HLE9.out)
              have HRN9 := Lib.hid (Rp.row_le HLE9.out HRB7.out)
              obtain ⟨ob, hob⟩ : ∃ ob, ob = w8.heap.size := ⟨_, rfl⟩
              rw [← hob] at HRB9 ⊢
              clear hob hsz9 HSZ9 HLE9 HQ7 HO7 HRB7
              have HDOC : Hid (∀ x : World, Below w9.heap.size w9 x → Calls Tryd.prog 43 #[.slice qw b cw, .int .i64 a] x fun e w' => ∃ q' c', e = .returned (.slice q' QQ.length c') ∧ Ow w' x.heap.size 9 1 (.slice q' QQ.length c') QQ.length (strs QQ) ∧ Below x.heap.size x w') := Lib.hid (fun x hx => by
                have hbx := HB9.out.trans (hx.mono HB9.out.size)
                have htl : (N.take b).length = b := by rw [List.length_take]; omega
                have := refcons_any (N.take b) qw cw a x (by omega) (by omega) (fun y hy => HN60.out y (List.mem_of_mem_take hy)) (HR.out.below hbx) (by rw [htl, strs_tk]; exact Rd_take1 (HO9.out.below hx) (by omega))
                rw [htl] at this
                have e : subR ((N.take b).map leafS) a true = QQ := HQE.out
                rw [e] at this
                exact this)
              go_wp2_with fail
              refine Rc.region (w9.heap.size) 25 [Rc.F 8 (fun p => .slice p.q QQ.length p.c) (fun p _ y => Rd y 1 (.slice p.q QQ.length p.c) QQ.length (strs QQ)), Rc.F 13 (fun p => .slice p.q QQ.length p.c) (fun p _ y => Rd y 1 (.slice p.q QQ.length p.c) QQ.length (strs QQ)), Rc.G 14 [8, 13] (fun _ => .bool true) (fun _ _ _ => True), Rc.F 22 (fun _ => .int .i64 0) (fun _ _ _ => True)] [] (by kernel_rfl) (Nat.le_refl _) (by kernel_rfl) ?_; intro p; simp only [List.take, List.drop]
              iterate 8 (refine Rc.rK rfl rfl ?_; intro K hK; apply Exists.intro; refine ⟨?_, ?_⟩; (focus (intro x hx;  go_simp; (first | (fail) | ((try go_bits); (try go_simp); (try rfl))))); go_simp; refine hK _ ?_; clear hK K)
              refine Rc.fK rfl rfl rfl rfl ?_ ?_
              · intro x Fs hx hle hg K hK
                have ht := texts16_any qq qc QQ x (HQ9.out.below (Rc.undrew hx)) (by omega)
                have HTX := Lib.hid ht
                clear ht
                go_wp2_with fail
                refine HTX.out.mono ?_
                rintro e x' ⟨v, rfl, how, hb⟩
                obtain ⟨q', c', rfl⟩ := Ow_form how
                go_wp2_with fail
                exact hK ⟨q', c', undef⟩ x' hb (fun F y hF hy => (Rd.of_ow how).keeps hy (fun k hk => .inr (hF k (how.lt k hk).1 (how.lt k hk).2)))
              intro K hK; go_simp; refine hK _ ?_; clear hK K
              iterate 4 (refine Rc.rK rfl rfl ?_; intro K hK; apply Exists.intro; refine ⟨?_, ?_⟩; (focus (intro x hx;  go_simp; (first | (fail) | ((try go_bits); (try go_simp); (try rfl))))); go_simp; refine hK _ ?_; clear hK K)
              refine Rc.fK rfl rfl rfl rfl ?_ ?_
              · intro x Fs hx hle hg K hK
                have HTX := Lib.hid (HDOC.out x (Rc.undrew hx))
                go_wp2_with fail
                refine HTX.out.mono ?_
                rintro e x' ⟨q', c', rfl, how, hb⟩
                go_wp2_with fail
                exact hK ⟨q', c', undef⟩ x' hb (fun F y hF hy => (Rd.of_ow how).keeps hy (fun k hk => .inr (hF k (how.lt k hk).1 (how.lt k hk).2)))
              intro K hK; go_simp; refine hK _ ?_; clear hK K
              refine Rc.fK rfl rfl rfl rfl ?_ ?_
              · intro x Fs hx hle hg K hK
                have h1 : Rd x 1 (.slice (p 8).q QQ.length (p 8).c) QQ.length (strs QQ) := hg.1
                have h2 : Rd x 1 (.slice (p 13).q QQ.length (p 13).c) QQ.length (strs QQ) := hg.2.1
                have HSA := Lib.hid (refsame_any QQ (p 8).q (p 13).q (p 8).c (p 13).c x h1 h2)
                clear h1 h2 hg
                go_wp2_with fail
                refine HSA.out.mono ?_
                rintro e x' ⟨rfl, hb⟩
                go_wp2_with fail
                exact hK Rc.dflt x' hb (fun _ _ _ _ => trivial)
              intro K hK; go_simp; refine hK _ ?_; clear hK K
              iterate 5 (refine Rc.rK rfl rfl ?_; intro K hK; apply Exists.intro; refine ⟨?_, ?_⟩; (focus (intro x hx;  go_simp; (first | (fail) | ((try go_bits); (try go_simp); (try rfl))))); go_simp; refine hK _ ?_; clear hK K)
              refine Rc.r_load rfl rfl _ _ rfl (.agg (bysA Ra)) (fun x hx => load_whole (Rp.row_le (Rc.undrew hx) HRB9.out) HAL.out) ?_; intro K hK; go_simp; refine hK _ ?_; clear hK K
              refine Rc.r_load rfl rfl _ _ rfl (.agg (bysA Rn)) (fun x hx => load_whole (Rp.row_le (Rc.undrew hx) HRN9.out) HNL.out) ?_; intro K hK; go_simp; refine hK _ ?_; clear hK K
              refine Rc.fK rfl rfl rfl rfl ?_ ?_
              · intro x Fs hx hle hg K hK
                have hbx : Below w.heap.size w x := HB9.out.trans ((Rc.undrew hx).mono HB9.out.size)
                have hck := (by rw [← HCK.out]; exact checkC_any a b qq qc QQ Ra Rn x (HS.out.below hbx) (HQ9.out.below (Rc.undrew hx)) hQl HAL.out HNL.out hb63 : Calls Tryd.prog 36 #[.int .i64 a, .int .i64 b, .slice qq QQ.length qc, .agg (bysA Ra), .agg (bysA Rn)] x fun e w' => e = .returned (.int .i64 0) ∧ Below x.heap.size x w')
                have HCC := Lib.hid hck
                clear hck hg
                go_wp2_with fail
                refine HCC.out.mono ?_
                rintro e x' ⟨rfl, hb⟩
                go_wp2_with fail
                exact hK Rc.dflt x' hb (fun _ _ _ _ => trivial)
              intro K hK; go_simp; refine hK _ ?_; clear hK K
              iterate 2 (refine Rc.rK rfl rfl ?_; intro K hK; apply Exists.intro; refine ⟨?_, ?_⟩; (focus (intro x hx;  go_simp; (first | (fail) | ((try go_bits); (try go_simp); (try rfl))))); go_simp; refine hK _ ?_; clear hK K)
              refine Rc.done fun x Fs hx hle hg => ?_
              have HX : Hid (Below w.heap.size w x) := Lib.hid (HB9.out.trans ((Rc.undrew hx).mono HB9.out.size))
              clear hx hle hg
              go_wp2_with fail
              refine NoPanic.normal ?_
              go_wp2_with fail
              go_ret
              exact ⟨rfl, HX.out⟩
end Ref
end Go.Proofs.YtkembhonfehlbaaDoor

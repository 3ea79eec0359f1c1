/- A part of the proof. Plain; no condition. -/
import Derived.Test.YtjkbpdobeljmjaaGreatDoorP11
import Derived.Test.YtjkbpdobeljmjaaGreatDoorP12
import Derived.Test.YtjkbpdobeljmjaaGreatDoorP7
import Derived.Test.YtjkbpdobeljmjaaGreatDoorP10
import Derived.Laws.IdiomCopy
import Derived.Lib.Overlaps
import Derived.Lib.AppendZerosOnto
import Derived.Laws.Externs
import Derived.Deep.RegionLaw
import Derived.Lib.Bytealg
/- A log that is a part of a greater object: Consistency. Conditions: sha2's tables lie. -/
namespace Go.Proofs.YtjkbpdobeljmjaaGreatDoor
open Go.RowKit Bits Mem Sha
namespace Rs
open Ref
set_option maxRecDepth 100000 in
set_option maxHeartbeats 8000000 in
theorem consistency_any (lb lo base : Nat) (C : Array Value) (t : TypeId) (q : Option Addr) (c : Nat) (D : List (List UInt8)) (m n : Nat) (w : World) (hS : Sha.Tabs w) (h : LogAt w lb lo C t base q c D) (hD : D.length ≤ 1000) (hn : n ≤ D.length) (hmn : m ≤ n) :
    Calls Tryz.prog 158 #[.pointer (some ⟨lb, lo, none⟩), .int .i64 m, .int .i64 n] w fun e w' =>
      ∃ q' c', e = .returned (.tuple #[.slice q' (subS (D.take n) m true).length c', .int .i64 0]) ∧ OwL w' w.heap.size (.slice q' (subS (D.take n) m true).length c') (subS (D.take n) m true) ∧ Below w.heap.size w w' := by
  obtain ⟨i0, hi, hz0, hz1, hz2⟩ := parts3 infoA32
  have hrd := h.2.rd
  have hcap := Rd_cap hrd.2
  have hcD := hcap.1
  have hcM := hcap.2
  have c0 := h.cell
  have HLG := Lib.hid h
  have HS := Lib.hid hS
  have hTl : (D.take n).length = n := by rw [List.length_take]; omega
  have hcut := hrd.cut' hn
  have HCUT : Hid (RdL w (.slice q (D.take n).length c) (D.take n)) := Lib.hid (by rw [hTl]; exact hcut)
  obtain ⟨T, hT⟩ : ∃ T, T = D.take n := ⟨_, rfl⟩
  rw [← hT] at HCUT hTl ⊢
  obtain ⟨PP, hPP⟩ : ∃ PP, PP = subS T m true := ⟨_, rfl⟩
  rw [← hPP]
  have HPP := Lib.hid hPP
  have hnI : (n : Int) ≤ (D.length : Int) := by omega
  have hnc : n ≤ c := by omega
  have hbg : ¬ (D.length : Int) < (n : Int) := by omega
  have hmnI : ¬ (n : Int) < (m : Int) := by omega
  have hd1 : decide (D.length < n) = false := decide_eq_false (by omega)
  have hd3 : decide (n < m) = false := decide_eq_false (by omega)
  have hd4 : decide ((n : Int) < (m : Int)) = false := decide_eq_false (by omega)
  have hd5 : decide ((D.length : Int) < (n : Int)) = false := decide_eq_false (by omega)
  have hd2 : decide ((m : Int) < 0) = false := decide_eq_false (by omega)
  have hd6 : decide ((n : Int) < 0) = false := decide_eq_false (by omega)
  clear h hS hrd hcap hcut hT hPP
  by_cases hz : m = 0
  · subst hz
    have HPE : Hid (PP = []) := Lib.hid (by rw [HPP.out, subS_end T 0 true (by omega)]; rfl)
    go_enter Tryz.func158, Tryz.ntmps158
    go_wp2_with fail
    refine (loglen_any lb lo base C t q c D w HLG.out).mono ?_
    rintro e w0 ⟨rfl, hw0⟩
    subst hw0
    go_wp2_with fail
    go_ret2
    exact ⟨none, 0, by rw [HPE.out]; rfl, by rw [HPE.out]; exact ⟨(by intro x h; cases h), Ow.nil _ _ _ _⟩, Below.refl _ _⟩
  · have hzI : ((m : Int) == 0) = false := by rw [beq_eq_false_iff_ne]; omega
    by_cases he : m = n
    · subst he
      have HPE : Hid (PP = []) := Lib.hid (by rw [HPP.out, subS_end T m true (by omega)]; rfl)
      go_enter Tryz.func158, Tryz.ntmps158
      go_wp2_with fail
      refine (loglen_any lb lo base C t q c D w HLG.out).mono ?_
      rintro e w0 ⟨rfl, hw0⟩
      subst hw0
      go_wp2_with fail
      go_ret2
      exact ⟨none, 0, by rw [HPE.out]; rfl, by rw [HPE.out]; exact ⟨(by intro x h; cases h), Ow.nil _ _ _ _⟩, Below.refl _ _⟩
    · have heI : ((m : Int) == (n : Int)) = false := by rw [beq_eq_false_iff_ne]; omega
      go_enter Tryz.func158, Tryz.ntmps158
      go_wp2_with fail
      refine (loglen_any lb lo base C t q c D w HLG.out).mono ?_
      rintro e w0 ⟨rfl, hw0⟩
      subst hw0
      go_wp2_with fail
      (try simp only [hd1, hd2, hd3, hd4, hd5, hd6])
      go_loopw [1, 8, 9, 10] (fun iv ov sv fv wr => ∃ (j : Nat) (Ls O : List (List UInt8)) (f : Bool) (qs qo : Option Addr) (cs co : Nat), iv = .int .i64 j ∧ ov = .slice qo O.length co ∧ sv = .slice qs Ls.length cs ∧ fv = .bool f ∧ 1 ≤ j ∧ j ≤ Ls.length ∧ O.length + Ls.length ≤ n ∧
        Hid (RdL w0 (.slice qs Ls.length cs) Ls) ∧ Hid (OwL wr w0.heap.size (.slice qo O.length co) O) ∧ Hid (Below w0.heap.size w0 wr) ∧ Hid (PP = subS Ls j f ++ O.reverse)) (fun _ _ sv _ _ => sliceLen sv)
      case atStart => exact ⟨m, T, [], true, q, none, c, 0, rfl, rfl, by rw [hTl], rfl, by omega, by omega, by simp; omega, HCUT, Lib.hid ⟨(by intro x h; cases h), Ow.nil _ _ _ _⟩, Lib.hid (Below.refl _ _), Lib.hid (by rw [HPP.out]; simp)⟩
      case round =>
        obtain ⟨j, Ls, O, f, qs, qo, cs, co, rfl, rfl, rfl, rfl, hj1, hj, hOL, HR, HO, HB, HP⟩ := hrel
        clear hzI heI hd1 hd2 hd3 hd4 hd5 hd6 hbg hmnI hnI hnc
        by_cases h2 : j < Ls.length
        · obtain ⟨bs, os, hqe, hbs, hlc, hcM2, _⟩ := Rd_lt HR.out.2 (by omega)
          subst hqe
          have HPL := Lib.hid (subS_left Ls j f h2 hj1)
          have HPR := Lib.hid (subS_right Ls j f h2 hj1)
          obtain ⟨m1, hm⟩ : ∃ m1, m1 = Ls.length := ⟨_, rfl⟩
          have HHF := Lib.hid (half_any m1 · (by omega) (by omega))
          have hk1 := Rfc.hf_lt m1 (by omega)
          have hk0 := Rfc.hf_pos m1
          rw [← hm] at HPL HPR hlc hOL hj h2 ⊢
          obtain ⟨k, hk⟩ : ∃ k, k = Rfc.hf m1 := ⟨_, rfl⟩
          rw [← hk] at HHF hk1 hk0 HPL HPR
          have HM := Lib.hid hm
          have hjmI : (j : Int) < (m1 : Int) := by omega
          have hkm : k < m1 := hk1
          have hkc : k ≤ cs := by omega
          have hkcI : (k : Int) ≤ (cs : Int) := by omega
          have hkmI : (k : Int) ≤ (m1 : Int) := by omega
          clear hk hm
          go_wp2_with fail
          refine (HHF.out wr).mono ?_
          rintro e w2 ⟨rfl, hw2⟩
          subst hw2
          by_cases hjk : j ≤ k
          · have hjkI : (j : Int) ≤ (k : Int) := by omega
            obtain ⟨N, hN⟩ : ∃ N, N = treeS (Ls.drop k) := ⟨_, rfl⟩
            have hNall : ∀ x ∈ Ls.drop k, x.length = 32 := HR.out.1.drop k
            have hrdk : Hid (RdL w0 (.slice (some ⟨bs, os + k * 32, none⟩) (m1 - k) (cs - k)) (Ls.drop k)) := Lib.hid (by have := HR.out.drop (k := k) (by rw [← HM.out]; omega); rwa [← HM.out] at this)
            have hdl : (Ls.drop k).length = m1 - k := by rw [List.length_drop, HM.out]
            go_wp2_with (refine l_cutlo rfl 32 _ _ rfl 22 i0 Tryz.underlying32 hi bs os m1 cs k 32 hz1 rfl rfl hkm hlc ?_)
            have ht := total_any (some ⟨bs, os + k * 32, none⟩) (cs - k) (Ls.drop k) w2 (HS.out.below HB.out) (by rw [hdl]; exact hrdk.out.below HB.out) (by omega)
            rw [hdl] at ht
            refine ht.mono ?_
            clear ht
            rintro e w3 ⟨rfl, hb3⟩
            have HNL : Hid (N.length = 32) := Lib.hid (by rw [hN]; exact treeS_length _ hNall)
            have HNE := Lib.hid hN
            have hsN : (bysA N).size = 32 := by rw [bysA_size, HNL.out]
            have hfill := fill_all (bysA N) (bysA zeros32) (by rw [bysA_size, HNL.out]; rfl)
            rw [hsN] at hfill
            have HFILL := Lib.hid hfill
            have HOX := Lib.hid (HO.out.below hb3)
            have HBX : Hid (Below w0.heap.size w0 w3) := Lib.hid (HB.out.trans (hb3.mono HB.out.size))
            have hlit := Rd_lit w3 (bysA N) 22 32 1 (by rw [bysA_size, HNL.out]) (by decide)
            have HLIT := Lib.hid hlit
            have hs3 : w0.heap.size ≤ w3.heap.size := HBX.out.size
            rw [← HNE.out]
            clear hfill hlit hb3 hN hNall
            go_wp2_with (rw [z32r, HFILL.out]; at_builtin; go_must (refine app_ow rfl _ _ 32 32 rfl w0.heap.size 22 i0 (.agg (bysA zeros32)) 32 32 Tryz.underlying32 hi hz0 hz1 hz2 (by rfl) _ O.length _ rfl (HOX.out.2.alloc _) _ 1 _ rfl (Rd.src Tryz.underlying32 HLIT.out (bys_one _)) (by unfold maxLen; omega) (by omega) (by simp; omega) ?_); go_must (intro v4 w4 how4 hg4); go_must (obtain ⟨q4, c4, rfl⟩ := Ow_form how4); go_must (refine Hid.out ?_))
            have hg4 : (w3.alloc (.cells (bysA N) 22)).grownBy w4 (Value.slice qo O.length co).ownBlock := hg4
            have hx1 : Below w3.heap.size w3 (w3.alloc (.cells (bysA N) 22)) := (Below.refl _ _).alloc (Nat.le_refl _) _
            have hbx : Below w0.heap.size w0 (w3.alloc (.cells (bysA N) 22)) := HBX.out.trans (hx1.mono HBX.out.size)
            have HB4 : Hid (Below w0.heap.size w0 w4) := Lib.hid (hbx.grown hg4 hbx.size (fun j hj => (HOX.out.2.lt j hj).1))
            have HO4 : Hid (OwL w4 w0.heap.size (.slice q4 (O ++ [N]).length c4) (O ++ [N])) := Lib.hid ⟨HOX.out.1.append (All32.one HNL.out), by
              rw [List.length_append, List.flatten_append, bys_append]
              simpa [bysA] using how4⟩
            have hon : O.length + 1 = (O ++ [N]).length := by simp
            rw [hon]
            clear how4 hg4 hx1 hbx hs3 hsN
            refine Lib.hid ?_
            have hkl : k ≤ Ls.length := by rw [← HM.out]; omega
            have htl : (Ls.take k).length = k := by rw [List.length_take]; omega
            have HPN : Hid (PP = subS (Ls.take k) j f ++ (O ++ [N]).reverse) := Lib.hid (by
              rw [HP.out, HPL.out hjk, List.reverse_append, HNE.out]
              simp)
            have HRN : Hid (RdL w0 (.slice (some ⟨bs, os, none⟩) (Ls.take k).length cs) (Ls.take k)) := Lib.hid (by rw [htl]; exact HR.out.cut' hkl)
            go_wp2_with fail
            exact ⟨⟨j, Ls.take k, O ++ [N], f, some ⟨bs, os, none⟩, q4, cs, c4, rfl, rfl, by rw [htl], rfl, hj1, by rw [htl]; omega, by rw [htl, ← hon]; omega, HRN, HO4, HB4, HPN⟩, by simp [sliceLen]; omega⟩
          · have hjkI : ¬ (j : Int) ≤ (k : Int) := by omega
            obtain ⟨N, hN⟩ : ∃ N, N = treeS (Ls.take k) := ⟨_, rfl⟩
            have hNall : ∀ x ∈ Ls.take k, x.length = 32 := HR.out.1.take k
            have hkl : k ≤ Ls.length := by rw [← HM.out]; omega
            have htl : (Ls.take k).length = k := by rw [List.length_take]; omega
            have hdl : (Ls.drop k).length = m1 - k := by rw [List.length_drop, HM.out]
            have hrdk : Hid (RdL w0 (.slice (some ⟨bs, os, none⟩) k cs) (Ls.take k)) := Lib.hid (HR.out.cut' hkl)
            have hrdd : Hid (RdL w0 (.slice (some ⟨bs, os + k * 32, none⟩) (m1 - k) (cs - k)) (Ls.drop k)) := Lib.hid (by have := HR.out.drop (k := k) hkl; rwa [← HM.out] at this)
            go_wp2_with fail
            have ht := total_any (some ⟨bs, os, none⟩) cs (Ls.take k) w2 (HS.out.below HB.out) (by rw [htl]; exact hrdk.out.below HB.out) (by omega)
            rw [htl] at ht
            refine ht.mono ?_
            clear ht
            rintro e w3 ⟨rfl, hb3⟩
            have HNL : Hid (N.length = 32) := Lib.hid (by rw [hN]; exact treeS_length _ hNall)
            have HNE := Lib.hid hN
            have hsN : (bysA N).size = 32 := by rw [bysA_size, HNL.out]
            have hfill := fill_all (bysA N) (bysA zeros32) (by rw [bysA_size, HNL.out]; rfl)
            rw [hsN] at hfill
            have HFILL := Lib.hid hfill
            have HOX := Lib.hid (HO.out.below hb3)
            have HBX : Hid (Below w0.heap.size w0 w3) := Lib.hid (HB.out.trans (hb3.mono HB.out.size))
            have hlit := Rd_lit w3 (bysA N) 22 32 1 (by rw [bysA_size, HNL.out]) (by decide)
            have HLIT := Lib.hid hlit
            have hs3 : w0.heap.size ≤ w3.heap.size := HBX.out.size
            rw [← HNE.out]
            clear hfill hlit hb3 hN hNall
            go_wp2_with (rw [z32r, HFILL.out]; at_builtin; go_must (refine app_ow rfl _ _ 32 32 rfl w0.heap.size 22 i0 (.agg (bysA zeros32)) 32 32 Tryz.underlying32 hi hz0 hz1 hz2 (by rfl) _ O.length _ rfl (HOX.out.2.alloc _) _ 1 _ rfl (Rd.src Tryz.underlying32 HLIT.out (bys_one _)) (by unfold maxLen; omega) (by omega) (by simp; omega) ?_); go_must (intro v4 w4 how4 hg4); go_must (obtain ⟨q4, c4, rfl⟩ := Ow_form how4); go_must (refine Hid.out ?_))
            have hg4 : (w3.alloc (.cells (bysA N) 22)).grownBy w4 (Value.slice qo O.length co).ownBlock := hg4
            have hx1 : Below w3.heap.size w3 (w3.alloc (.cells (bysA N) 22)) := (Below.refl _ _).alloc (Nat.le_refl _) _
            have hbx : Below w0.heap.size w0 (w3.alloc (.cells (bysA N) 22)) := HBX.out.trans (hx1.mono HBX.out.size)
            have HB4 : Hid (Below w0.heap.size w0 w4) := Lib.hid (hbx.grown hg4 hbx.size (fun j hj => (HOX.out.2.lt j hj).1))
            have HO4 : Hid (OwL w4 w0.heap.size (.slice q4 (O ++ [N]).length c4) (O ++ [N])) := Lib.hid ⟨HOX.out.1.append (All32.one HNL.out), by
              rw [List.length_append, List.flatten_append, bys_append]
              simpa [bysA] using how4⟩
            have hon : O.length + 1 = (O ++ [N]).length := by simp
            rw [hon]
            clear how4 hg4 hx1 hbx hs3 hsN
            refine Lib.hid ?_
            go_wp2_with (refine l_cutlo rfl 32 _ _ rfl 22 i0 Tryz.underlying32 hi bs os m1 cs k 32 hz1 rfl rfl hkm hlc ?_; go_simp)
            have HPN : Hid (PP = subS (Ls.drop k) (j - k) false ++ (O ++ [N]).reverse) := Lib.hid (by
              rw [HP.out, HPR.out hjk, List.reverse_append, HNE.out]
              simp)
            have hji : (j : Int) - (k : Int) = ((j - k : Nat) : Int) := by omega
            have HRN : Hid (RdL w0 (.slice (some ⟨bs, os + k * 32, none⟩) (Ls.drop k).length (cs - k)) (Ls.drop k)) := Lib.hid (by rw [hdl]; exact hrdd.out)
            exact ⟨⟨j - k, Ls.drop k, O ++ [N], false, some ⟨bs, os + k * 32, none⟩, q4, cs - k, c4, by rw [← hji], rfl, by rw [hdl], rfl, by omega, by rw [hdl]; omega, by rw [hdl, ← hon]; omega, HRN, HO4, HB4, HPN⟩, by simp [sliceLen]; omega⟩
        · have hjl : j = Ls.length := by omega
          have HPE0 := Lib.hid (subS_end Ls j f (by omega))
          have hge : ¬ (j : Int) < (Ls.length : Int) := by omega
          cases f with
          | true =>
            have HPE : Hid (PP = O.reverse) := Lib.hid (by rw [HP.out, HPE0.out]; rfl)
            clear hjl
            go_wp2_with fail
            have HOLN : Hid (PP.length = O.length) := Lib.hid (by rw [HPE.out, List.length_reverse])
            have HRV := Lib.hid (rev_any O.length qo co O wr w0.heap.size rfl HO.out)
            go_wp2_with fail
            refine HRV.out.mono ?_
            rintro e w9 ⟨rfl, ho9, hg9⟩
            have HO9 := Lib.hid ho9
            have HB9 : Hid (Below w0.heap.size w0 w9) := Lib.hid (HB.out.grown hg9 HB.out.size (fun k hk => (HO.out.2.lt k hk).1))
            clear ho9 hg9
            go_wp2_with fail
            go_ret2
            exact ⟨qo, co, by rw [HOLN.out]; rfl, by rw [HOLN.out, HPE.out]; exact HO9.out, HB9.out⟩
          | false =>
            obtain ⟨N, hN⟩ : ∃ N, N = treeS Ls := ⟨_, rfl⟩
            have hNall : ∀ x ∈ Ls, x.length = 32 := HR.out.1
            clear hjl
            go_wp2_with fail
            have ht := total_any qs cs Ls wr (HS.out.below HB.out) (HR.out.below HB.out) (by omega)
            refine ht.mono ?_
            clear ht
            rintro e w3 ⟨rfl, hb3⟩
            have HNL : Hid (N.length = 32) := Lib.hid (by rw [hN]; exact treeS_length _ hNall)
            have HNE := Lib.hid hN
            have hsN : (bysA N).size = 32 := by rw [bysA_size, HNL.out]
            have hfill := fill_all (bysA N) (bysA zeros32) (by rw [bysA_size, HNL.out]; rfl)
            rw [hsN] at hfill
            have HFILL := Lib.hid hfill
            have HOX := Lib.hid (HO.out.below hb3)
            have HBX : Hid (Below w0.heap.size w0 w3) := Lib.hid (HB.out.trans (hb3.mono HB.out.size))
            have hlit := Rd_lit w3 (bysA N) 22 32 1 (by rw [bysA_size, HNL.out]) (by decide)
            have HLIT := Lib.hid hlit
            have hs3 : w0.heap.size ≤ w3.heap.size := HBX.out.size
            rw [← HNE.out]
            clear hfill hlit hb3 hN hNall
            go_wp2_with (rw [z32r, HFILL.out]; at_builtin; go_must (refine app_ow rfl _ _ 32 32 rfl w0.heap.size 22 i0 (.agg (bysA zeros32)) 32 32 Tryz.underlying32 hi hz0 hz1 hz2 (by rfl) _ O.length _ rfl (HOX.out.2.alloc _) _ 1 _ rfl (Rd.src Tryz.underlying32 HLIT.out (bys_one _)) (by unfold maxLen; omega) (by omega) (by simp; omega) ?_); go_must (intro v4 w4 how4 hg4); go_must (obtain ⟨q4, c4, rfl⟩ := Ow_form how4); go_must (refine Hid.out ?_))
            have hg4 : (w3.alloc (.cells (bysA N) 22)).grownBy w4 (Value.slice qo O.length co).ownBlock := hg4
            have hx1 : Below w3.heap.size w3 (w3.alloc (.cells (bysA N) 22)) := (Below.refl _ _).alloc (Nat.le_refl _) _
            have hbx : Below w0.heap.size w0 (w3.alloc (.cells (bysA N) 22)) := HBX.out.trans (hx1.mono HBX.out.size)
            have HB4 : Hid (Below w0.heap.size w0 w4) := Lib.hid (hbx.grown hg4 hbx.size (fun j hj => (HOX.out.2.lt j hj).1))
            have HO4 : Hid (OwL w4 w0.heap.size (.slice q4 (O ++ [N]).length c4) (O ++ [N])) := Lib.hid ⟨HOX.out.1.append (All32.one HNL.out), by
              rw [List.length_append, List.flatten_append, bys_append]
              simpa [bysA] using how4⟩
            have hon : O.length + 1 = (O ++ [N]).length := by simp
            rw [hon]
            clear how4 hg4 hx1 hbx hs3 hsN
            refine Lib.hid ?_
            have HPE : Hid (PP = (O ++ [N]).reverse) := Lib.hid (by rw [HP.out, HPE0.out, List.reverse_append, HNE.out]; rfl)
            obtain ⟨O2, hO2⟩ : ∃ O2, O2 = O ++ [N] := ⟨_, rfl⟩
            rw [← hO2] at HPE HO4 ⊢
            clear hO2 hon
            go_wp2_with fail
            have HOLN : Hid (PP.length = O2.length) := Lib.hid (by rw [HPE.out, List.length_reverse])
            have HRV := Lib.hid (rev_any O2.length q4 c4 O2 w4 w0.heap.size rfl HO4.out)
            go_wp2_with fail
            refine HRV.out.mono ?_
            rintro e w9 ⟨rfl, ho9, hg9⟩
            have HO9 := Lib.hid ho9
            have HB9 : Hid (Below w0.heap.size w0 w9) := Lib.hid (HB4.out.grown hg9 HB4.out.size (fun k hk => (HO4.out.2.lt k hk).1))
            clear ho9 hg9
            go_wp2_with fail
            go_ret2
            exact ⟨q4, c4, by rw [HOLN.out]; rfl, by rw [HOLN.out, HPE.out]; exact HO9.out, HB9.out⟩
end Rs
end Go.Proofs.YtjkbpdobeljmjaaGreatDoor

/- slices.Insert of one element, anywhere in a row of one's own. -/
namespace Go.Proofs.YtjkbpdobeljmjaaGreatDoor
open Go.RowKit
namespace Mem
section
variable {P : Program}
theorem parts3M {t : TypeId} {z : Value} {s b : Nat} (h : (P.info? t).map (fun i => (i.zero, i.size, i.bytes)) = some (some z, s, b)) : ∃ i0, P.info? t = some i0 ∧ i0.zero = some z ∧ i0.size = s ∧ i0.bytes = b := by
  obtain ⟨i0, h1, h2⟩ := Option.map_eq_some_iff.1 h
  have h2 := Prod.mk.inj h2
  have h3 := Prod.mk.inj h2.2
  exact ⟨i0, h1, h2.1, h3.1, h3.2⟩
end
section
variable {w w' : World} {B s n c g : Nat} {e : TypeId} {xs : List Value} {q : Option Addr}
theorem Ow.some_of_lt (h : Ow w B e s (.slice q n c) n xs) (hn : 0 < n) : ∃ g, q = some ⟨g, 0, none⟩ := by
  rcases h.2 with ⟨_, h0⟩ | ⟨g, cap, cur, fz, hv, _⟩
  · omega
  · injection hv with h1; exact ⟨g, h1⟩
end
end Mem
end Go.Proofs.YtjkbpdobeljmjaaGreatDoor

/- The walks of the schedule's comparison, New and Now. -/
namespace Go.Proofs.YtjkbpdobeljmjaaGreatDoor
open Go.RowKit Bits Mem
namespace Cad
structure One where
  id : List UInt8
  period : Int
  age : Int
def oneA (x : One) : Array Value := #[.string ⟨x.id.toArray⟩, .int .i64 x.period, .int .i64 x.age]
def ones (L : List One) : List Value := L.flatMap fun x => [.string ⟨x.id.toArray⟩, .int .i64 x.period, .int .i64 x.age]
set_option maxRecDepth 100000 in
set_option maxHeartbeats 1000000 in
theorem newCad_any (n : Nat) (w : World) : Calls Tryz.prog 11 #[.int .i64 n] w fun e w' => e = .returned (.tuple #[.pointer (some ⟨w.heap.size, 0, none⟩), .int .i64 0]) ∧ w' = w.alloc (.cells #[.int .i64 n, .slice none 0 0] 104) := by
  go_enter Tryz.func11, Tryz.ntmps11
  go_wp2_with fail
  go_ret2
  exact ⟨rfl, rfl⟩
def SchedAt (w : World) (sb base : Nat) (q : Option Addr) (c : Nat) (now : Int) (L : List One) : Prop :=
  w.heap[sb]? = some (.cells #[.int .i64 now, .slice q L.length c] 104 (0, 0)) ∧ sb < base ∧ Ow w base 133 3 (.slice q L.length c) L.length (ones L)
end Cad
end Go.Proofs.YtjkbpdobeljmjaaGreatDoor

/- The walks of the schedule's find and get. -/
namespace Go.Proofs.YtjkbpdobeljmjaaGreatDoor
open Go.RowKit Bits Mem Sha
namespace Cad
theorem unguard16 {P : Program} {ops : Array Oper} {rest : List Oper} {o : Oper} {a : Act} {w : World} {Q : Exit → Act → World → Prop} (hw : Region.wanted o (yielded ops a.tmps) = true)
    (h : wpList P ops Q ({ o with guard := none } :: rest) a w) : wpList P ops Q (o :: rest) a w := by
  cases o
  unfold wpList at h ⊢
  rw [if_pos hw]
  split at h
  · exact h
  · rename_i h'; exact absurd rfl h'
theorem ones_length (L : List One) : (ones L).length = L.length * 3 := by
  unfold ones
  induction L with
  | nil => rfl
  | cons x L ih => simp [List.flatMap_cons, ih]; omega
theorem ones_get : ∀ (L : List One) (k : Nat) (x : One), L[k]? = some x → ∀ j, j < 3 → (ones L)[k * 3 + j]? = (oneA x).toList[j]?
  | [], _, _, h, _, _ => by simp at h
  | y :: L, 0, x, h, j, hj => by
    cases h
    unfold ones oneA
    rw [List.flatMap_cons, List.getElem?_append_left (by simp; omega)]
    simp
  | y :: L, k + 1, x, h, j, hj => by
    have := ones_get L k x (by simpa using h) j hj
    rw [← this]
    unfold ones
    rw [List.flatMap_cons, List.getElem?_append_right (by simp; omega)]
    congr 1
    simp
    omega
end Cad
end Go.Proofs.YtjkbpdobeljmjaaGreatDoor

/- The walks of the schedule's find and get. -/
namespace Go.Proofs.YtjkbpdobeljmjaaGreatDoor
open Go.RowKit Bits Mem Sha
namespace Cad
theorem SchedAt.cells {w : World} {sb base : Nat} {q : Option Addr} {c : Nat} {now : Int} {L : List One} (h : SchedAt w sb base q c now L) : w.cell? ⟨sb, 0, none⟩ = some (.int .i64 now) ∧ w.cell? ⟨sb, 1, none⟩ = some (.slice q L.length c) ∧ w.frozen? ⟨sb, 0, none⟩ = false ∧ w.frozen? ⟨sb, 1, none⟩ = false :=
  ⟨(cell_of_row _ _ _ _ _ _ h.1).trans rfl, (cell_of_row _ _ _ _ _ _ h.1).trans rfl, by simp [World.frozen?, h.1], by simp [World.frozen?, h.1]⟩
end Cad
end Go.Proofs.YtjkbpdobeljmjaaGreatDoor

/- The walk of the schedule's Tick. -/
namespace Go.Proofs.YtjkbpdobeljmjaaGreatDoor
open Go.RowKit Bits Mem Sha
namespace Cad
def tick1 (x : One) : One := { x with age := if x.age < 9223372036854775807 then x.age + 1 else x.age }
def isDue (x : One) : Bool := (tick1 x).age.tmod x.period == 0
def dues (L : List One) : List (List UInt8) := (L.filter isDue).map (·.id)
def ticked (k : Nat) (L : List One) : List One := (L.take k).map tick1 ++ L.drop k
theorem ticked_length (k : Nat) (L : List One) : (ticked k L).length = L.length := by simp [ticked]; omega
theorem ticked_at {k : Nat} {L : List One} {x : One} (hx : L[k]? = some x) : (ticked k L)[k]? = some x := by
  have hk := (List.getElem?_eq_some_iff.1 hx).1
  unfold ticked
  rw [List.getElem?_append_right (by simp; omega)]
  simp [Nat.min_eq_left (Nat.le_of_lt hk)]
  simpa using hx
theorem ticked_succ {k : Nat} {L : List One} {x : One} (hx : L[k]? = some x) : ticked (k + 1) L = (ticked k L).set k (tick1 x) := by
  have hk := (List.getElem?_eq_some_iff.1 hx).1
  refine List.ext_getElem? fun i => ?_
  unfold ticked
  rw [List.getElem?_set]
  by_cases h1 : i < k
  · rw [List.getElem?_append_left (by simp; omega), if_neg (by omega), List.getElem?_append_left (by simp; omega)]
    simp [h1, show i < k + 1 by omega]
  · by_cases h2 : i = k
    · subst h2
      rw [List.getElem?_append_left (by simp; omega), if_pos rfl, if_pos (by simp; omega)]
      simp [hx]
    · rw [List.getElem?_append_right (by simp; omega), if_neg (fun e => h2 e.symm), List.getElem?_append_right (by simp; omega)]
      simp only [List.length_map, List.length_take, List.getElem?_drop]
      congr 1
      omega
theorem dues_succ {k : Nat} {L : List One} {x : One} (hx : L[k]? = some x) : dues (L.take (k + 1)) = dues (L.take k) ++ (if isDue x then [x.id] else []) := by
  unfold dues
  rw [List.take_add_one, hx, List.filter_append, List.map_append]
  congr 1
  simp only [Option.toList_some, List.filter_cons, List.filter_nil]
  split <;> rfl
theorem row_cells {w : World} {B g c n k : Nat} {L : List One} {x : One} (h : Ow w B 133 3 (.slice (some ⟨g, 0, none⟩) n c) n (ones L)) (hn : L.length = n) (hx : L[k]? = some x) :
    w.cell? ⟨g, k * 3, none⟩ = some (.string ⟨x.id.toArray⟩) ∧ w.cell? ⟨g, k * 3 + 1, none⟩ = some (.int .i64 x.period) ∧ w.cell? ⟨g, k * 3 + 2, none⟩ = some (.int .i64 x.age) ∧ w.frozen? ⟨g, k * 3 + 2, none⟩ = false ∧
    ∀ a : Int, Ow (w.setCell ⟨g, k * 3 + 2, none⟩ (.int .i64 a)) B 133 3 (.slice (some ⟨g, 0, none⟩) n c) n (ones (L.set k { x with age := a })) := by
  have hk := (List.getElem?_eq_some_iff.1 hx).1
  have hl := ones_length L
  obtain ⟨h1, h2⟩ := h
  rcases h2 with ⟨hv, _⟩ | ⟨g', cap, cur, fz, hv, hb, hg, hf, hnc, hcm, hcs, ht⟩
  · cases hv
  · cases hv
    have hle : n * 3 ≤ c * 3 := Nat.mul_le_mul_right _ hnc
    have hc : ∀ j, j < 3 → cur[k * 3 + j]? = (oneA x).toList[j]? := fun j hj => by
      rw [← ones_get L k x hx j hj, ← ht, List.getElem?_take, if_pos (by omega), Array.getElem?_toList]
    refine ⟨by have := hc 0 (by decide); rw [cell_of_row w g _ _ _ _ hg]; exact this, by rw [cell_of_row w g _ _ _ _ hg]; exact hc 1 (by decide), by rw [cell_of_row w g _ _ _ _ hg]; exact hc 2 (by decide), ?_, fun a => ?_⟩
    · have := hf (k * 3 + 2) (by omega)
      simp only [World.frozen?, hg]
      simpa using this
    · have hls := ones_length (L.set k { x with age := a })
      rw [List.length_set] at hls
      refine ⟨by omega, .inr ⟨g, c, cur.setIfInBounds (k * 3 + 2) (.int .i64 a), fz, rfl, hb, ?_, ?_, hnc, hcm, by simpa using hcs, ?_⟩⟩
      · rw [setCell_eq_setRow w g _ cur _ fz _ hg]
        exact setRow_heap w g cur _ _ fz hg
      · intro i hi
        rw [Array.size_setIfInBounds] at hi
        exact hf i hi
      · refine List.ext_getElem? fun j => ?_
        rw [List.getElem?_take]
        by_cases hj : j < n * 3
        · rw [if_pos hj, Array.getElem?_toList, Array.getElem?_setIfInBounds]
          obtain ⟨y, r, hr, rfl⟩ : ∃ y r, r < 3 ∧ j = y * 3 + r := ⟨j / 3, j % 3, Nat.mod_lt _ (by decide), by omega⟩
          have hy : y < L.length := by omega
          have ho : cur[y * 3 + r]? = (ones L)[y * 3 + r]? := by rw [← ht, List.getElem?_take, if_pos hj, Array.getElem?_toList]
          by_cases hyk : y = k
          · subst hyk
            have e1 := ones_get (L.set y { x with age := a }) y { x with age := a } (by rw [List.getElem?_set_self hy]) r hr
            rw [e1]
            by_cases hr2 : r = 2
            · subst hr2
              rw [if_pos rfl, if_pos (by omega)]
              rfl
            · rw [if_neg (by omega), hc r hr]
              have : r = 0 ∨ r = 1 := by omega
              rcases this with rfl | rfl <;> rfl
          · obtain ⟨z, hz⟩ : ∃ z, L[y]? = some z := ⟨_, List.getElem?_eq_getElem hy⟩
            rw [if_neg (by omega), ho, ones_get L y z hz r hr, ones_get _ y z (by rw [List.getElem?_set_ne (fun e => hyk e.symm)]; exact hz) r hr]
        · rw [if_neg hj, List.getElem?_eq_none (by omega)]
end Cad
end Go.Proofs.YtjkbpdobeljmjaaGreatDoor


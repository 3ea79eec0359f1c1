/- The walk of the log's Consistency, and the errors of Inclusion and Consistency. -/
import Derived.Test.YtkembhonfehlbaaDoorRfcR
namespace Go.Proofs.YtkembhonfehlbaaDoor
open Go.RowKit Bits Mem Sha
namespace Ref
abbrev subS (l : List (List UInt8)) (m : Nat) (f : Bool) : List (List UInt8) := Rfc.sub nodeS (sha []) l m f
theorem subS_left (l : List (List UInt8)) (m : Nat) (f : Bool) (h : m < l.length) (h1 : 1 ≤ m) (hi : m ≤ Rfc.hf l.length) : subS l m f = subS (l.take (Rfc.hf l.length)) m f ++ [treeS (l.drop (Rfc.hf l.length))] := by
  unfold subS
  rw [Rfc.sub, dif_pos ⟨h, h1⟩, if_pos hi]
  rfl
theorem subS_right (l : List (List UInt8)) (m : Nat) (f : Bool) (h : m < l.length) (h1 : 1 ≤ m) (hi : ¬ m ≤ Rfc.hf l.length) : subS l m f = subS (l.drop (Rfc.hf l.length)) (m - Rfc.hf l.length) false ++ [treeS (l.take (Rfc.hf l.length))] := by
  unfold subS
  rw [Rfc.sub, dif_pos ⟨h, h1⟩, if_neg hi]
  rfl
theorem subS_end (l : List (List UInt8)) (m : Nat) (f : Bool) (h : ¬ (m < l.length ∧ 1 ≤ m)) : subS l m f = bif f then [] else [treeS l] := by
  unfold subS
  rw [Rfc.sub, dif_neg h]
  rfl
theorem subS_len (n : Nat) : ∀ (l : List (List UInt8)) (m : Nat) (f : Bool), l.length = n → (subS l m f).length ≤ n + 1 := by
  induction n using Nat.strongRecOn with
  | _ n ih =>
    intro l m f hl
    by_cases h : m < l.length ∧ 1 ≤ m
    · have h1 := Rfc.hf_lt l.length (by omega)
      have h2 := Rfc.hf_pos l.length
      by_cases hi : m ≤ Rfc.hf l.length
      · rw [subS_left l m f h.1 h.2 hi, List.length_append]
        have := ih (Rfc.hf l.length) (by omega) (l.take (Rfc.hf l.length)) m f (by rw [List.length_take]; omega)
        simp; omega
      · rw [subS_right l m f h.1 h.2 hi, List.length_append]
        have := ih (l.length - Rfc.hf l.length) (by omega) (l.drop (Rfc.hf l.length)) (m - Rfc.hf l.length) false (by rw [List.length_drop])
        simp; omega
    · rw [subS_end l m f h]
      cases f <;> simp
set_option maxRecDepth 100000 in
set_option maxHeartbeats 8000000 in
theorem consistency_any (lb base : Nat) (q : Option Addr) (c : Nat) (D : List (List UInt8)) (m n : Nat) (w : World) (hS : Sha.Tabs w) (h : LogAt w lb base q c D) (hD : D.length ≤ 1000) (hn : n ≤ D.length) (hmn : m ≤ n) :
    Calls Tryd.prog 39 #[.pointer (some ⟨lb, 0, none⟩), .int .i64 m, .int .i64 n] w fun e w' =>
      ∃ q' c', e = .returned (.tuple #[.slice q' (subS (D.take n) m true).length c', .int .i64 0]) ∧ OwL w' w.heap.size (.slice q' (subS (D.take n) m true).length c') (subS (D.take n) m true) ∧ Below w.heap.size w w' := by
  obtain ⟨i0, hi, hz0, hz1, hz2⟩ := parts3 infoA32
  have hrd := h.2.rd
  have hcap := Rd_cap hrd.2
  have hcD := hcap.1
  have hcM := hcap.2
  have c0 := h.cell
  have HLG := Lib.hid h
  have HS := Lib.hid hS
  have hTl : (D.take n).length = n := by rw [List.length_take]; omega
  have hcut := hrd.cut' hn
  have HCUT : Hid (RdL w (.slice q (D.take n).length c) (D.take n)) := Lib.hid (by rw [hTl]; exact hcut)
  obtain ⟨T, hT⟩ : ∃ T, T = D.take n := ⟨_, rfl⟩
  rw [← hT] at HCUT hTl ⊢
  obtain ⟨PP, hPP⟩ : ∃ PP, PP = subS T m true := ⟨_, rfl⟩
  rw [← hPP]
  have HPP := Lib.hid hPP
  have hnI : (n : Int) ≤ (D.length : Int) := by omega
  have hnc : n ≤ c := by omega
  have hbg : ¬ (D.length : Int) < (n : Int) := by omega
  have hmnI : ¬ (n : Int) < (m : Int) := by omega
  have hd1 : decide (D.length < n) = false := decide_eq_false (by omega)
  have hd3 : decide (n < m) = false := decide_eq_false (by omega)
  have hd4 : decide ((n : Int) < (m : Int)) = false := decide_eq_false (by omega)
  have hd5 : decide ((D.length : Int) < (n : Int)) = false := decide_eq_false (by omega)
  have hd2 : decide ((m : Int) < 0) = false := decide_eq_false (by omega)
  have hd6 : decide ((n : Int) < 0) = false := decide_eq_false (by omega)
  clear h hS hrd hcap hcut hT hPP
  by_cases hz : m = 0
  · subst hz
    have HPE : Hid (PP = []) := Lib.hid (by rw [HPP.out, subS_end T 0 true (by omega)]; rfl)
    go_enter Tryd.func39, Tryd.ntmps39
    go_wp2_with fail
    refine (loglen_any lb base q c D w HLG.out).mono ?_
    rintro e w0 ⟨rfl, hw0⟩
    subst hw0
    go_wp2_with fail
    go_ret2
    exact ⟨none, 0, by rw [HPE.out]; rfl, by rw [HPE.out]; exact ⟨(by intro x h; cases h), Ow.nil _ _ _ _⟩, Below.refl _ _⟩
  · have hzI : ((m : Int) == 0) = false := by rw [beq_eq_false_iff_ne]; omega
    by_cases he : m = n
    · subst he
      have HPE : Hid (PP = []) := Lib.hid (by rw [HPP.out, subS_end T m true (by omega)]; rfl)
      go_enter Tryd.func39, Tryd.ntmps39
      go_wp2_with fail
      refine (loglen_any lb base q c D w HLG.out).mono ?_
      rintro e w0 ⟨rfl, hw0⟩
      subst hw0
      go_wp2_with fail
      go_ret2
      exact ⟨none, 0, by rw [HPE.out]; rfl, by rw [HPE.out]; exact ⟨(by intro x h; cases h), Ow.nil _ _ _ _⟩, Below.refl _ _⟩
    · have heI : ((m : Int) == (n : Int)) = false := by rw [beq_eq_false_iff_ne]; omega
      go_enter Tryd.func39, Tryd.ntmps39
      go_wp2_with fail
      refine (loglen_any lb base q c D w HLG.out).mono ?_
      rintro e w0 ⟨rfl, hw0⟩
      subst hw0
      go_wp2_with fail
      (try simp only [hd1, hd2, hd3, hd4, hd5, hd6])
      go_loopw [1, 8, 9, 10] (fun iv ov sv fv wr => ∃ (j : Nat) (Ls O : List (List UInt8)) (f : Bool) (qs qo : Option Addr) (cs co : Nat), iv = .int .i64 j ∧ ov = .slice qo O.length co ∧ sv = .slice qs Ls.length cs ∧ fv = .bool f ∧ 1 ≤ j ∧ j ≤ Ls.length ∧ O.length + Ls.length ≤ n ∧
        Hid (RdL w0 (.slice qs Ls.length cs) Ls) ∧ Hid (OwL wr w0.heap.size (.slice qo O.length co) O) ∧ Hid (Below w0.heap.size w0 wr) ∧ Hid (PP = subS Ls j f ++ O.reverse)) (fun _ _ sv _ _ => sliceLen sv)
      case atStart => exact ⟨m, T, [], true, q, none, c, 0, rfl, rfl, by rw [hTl], rfl, by omega, by omega, by simp; omega, HCUT, Lib.hid ⟨(by intro x h; cases h), Ow.nil _ _ _ _⟩, Lib.hid (Below.refl _ _), Lib.hid (by rw [HPP.out]; simp)⟩
      case round =>
        obtain ⟨j, Ls, O, f, qs, qo, cs, co, rfl, rfl, rfl, rfl, hj1, hj, hOL, HR, HO, HB, HP⟩ := hrel
        clear hzI heI hd1 hd2 hd3 hd4 hd5 hd6 hbg hmnI hnI hnc
        by_cases h2 : j < Ls.length
        · obtain ⟨bs, os, hqe, hbs, hlc, hcM2, _⟩ := Rd_lt HR.out.2 (by omega)
          subst hqe
          have HPL := Lib.hid (subS_left Ls j f h2 hj1)
          have HPR := Lib.hid (subS_right Ls j f h2 hj1)
          obtain ⟨m1, hm⟩ : ∃ m1, m1 = Ls.length := ⟨_, rfl⟩
          have HHF := Lib.hid (half_any m1 · (by omega) (by omega))
          have hk1 := Rfc.hf_lt m1 (by omega)
          have hk0 := Rfc.hf_pos m1
          rw [← hm] at HPL HPR hlc hOL hj h2 ⊢
          obtain ⟨k, hk⟩ : ∃ k, k = Rfc.hf m1 := ⟨_, rfl⟩
          rw [← hk] at HHF hk1 hk0 HPL HPR
          have HM := Lib.hid hm
          have hjmI : (j : Int) < (m1 : Int) := by omega
          have hkm : k < m1 := hk1
          have hkc : k ≤ cs := by omega
          have hkcI : (k : Int) ≤ (cs : Int) := by omega
          have hkmI : (k : Int) ≤ (m1 : Int) := by omega
          clear hk hm
          go_wp2_with fail
          refine (HHF.out wr).mono ?_
          rintro e w2 ⟨rfl, hw2⟩
          subst hw2
          by_cases hjk : j ≤ k
          · have hjkI : (j : Int) ≤ (k : Int) := by omega
            obtain ⟨N, hN⟩ : ∃ N, N = treeS (Ls.drop k) := ⟨_, rfl⟩
            have hNall : ∀ x ∈ Ls.drop k, x.length = 32 := HR.out.1.drop k
            have hrdk : Hid (RdL w0 (.slice (some ⟨bs, os + k * 32, none⟩) (m1 - k) (cs - k)) (Ls.drop k)) := Lib.hid (by have := HR.out.drop (k := k) (by rw [← HM.out]; omega); rwa [← HM.out] at this)
            have hdl : (Ls.drop k).length = m1 - k := by rw [List.length_drop, HM.out]
            go_wp2_with (refine l_cutlo rfl 61 _ _ rfl 22 i0 Tryd.underlying61 hi bs os m1 cs k 32 hz1 rfl rfl hkm hlc ?_)
            have ht := total_any (some ⟨bs, os + k * 32, none⟩) (cs - k) (Ls.drop k) w2 (HS.out.below HB.out) (by rw [hdl]; exact hrdk.out.below HB.out) (by omega)
            rw [hdl] at ht
            refine ht.mono ?_
            clear ht
            rintro e w3 ⟨rfl, hb3⟩
            have HNL : Hid (N.length = 32) := Lib.hid (by rw [hN]; exact treeS_length _ hNall)
            have HNE := Lib.hid hN
            have hsN : (bysA N).size = 32 := by rw [bysA_size, HNL.out]
            have hfill := fill_all (bysA N) (bysA zeros32) (by rw [bysA_size, HNL.out]; rfl)
            rw [hsN] at hfill
            have HFILL := Lib.hid hfill
            have HOX := Lib.hid (HO.out.below hb3)
            have HBX : Hid (Below w0.heap.size w0 w3) := Lib.hid (HB.out.trans (hb3.mono HB.out.size))
            have hlit := Rd_lit w3 (bysA N) 22 32 1 (by rw [bysA_size, HNL.out]) (by decide)
            have HLIT := Lib.hid hlit
            have hs3 : w0.heap.size ≤ w3.heap.size := HBX.out.size
            rw [← HNE.out]
            clear hfill hlit hb3 hN hNall
            go_wp2_with (rw [z32r, HFILL.out]; at_builtin; go_must (refine app_ow rfl _ _ 61 61 rfl w0.heap.size 22 i0 (.agg (bysA zeros32)) 32 32 Tryd.underlying61 hi hz0 hz1 hz2 (by rfl) _ O.length _ rfl (HOX.out.2.alloc _) _ 1 _ rfl (Rd.src Tryd.underlying61 HLIT.out (bys_one _)) (by unfold maxLen; omega) (by omega) (by simp; omega) ?_); go_must (intro v4 w4 how4 hg4); go_must (obtain ⟨q4, c4, rfl⟩ := Ow_form how4); go_must (refine Hid.out ?_))
            have hg4 : (w3.alloc (.cells (bysA N) 22)).grownBy w4 (Value.slice qo O.length co).ownBlock := hg4
            have hx1 : Below w3.heap.size w3 (w3.alloc (.cells (bysA N) 22)) := (Below.refl _ _).alloc (Nat.le_refl _) _
            have hbx : Below w0.heap.size w0 (w3.alloc (.cells (bysA N) 22)) := HBX.out.trans (hx1.mono HBX.out.size)
            have HB4 : Hid (Below w0.heap.size w0 w4) := Lib.hid (hbx.grown hg4 hbx.size (fun j hj => (HOX.out.2.lt j hj).1))
            have HO4 : Hid (OwL w4 w0.heap.size (.slice q4 (O ++ [N]).length c4) (O ++ [N])) := Lib.hid ⟨HOX.out.1.append (All32.one HNL.out), by
              rw [List.length_append, List.flatten_append, bys_append]
              simpa [bysA] using how4⟩
            have hon : O.length + 1 = (O ++ [N]).length := by simp
            rw [hon]
            clear how4 hg4 hx1 hbx hs3 hsN
            refine Lib.hid ?_
            have hkl : k ≤ Ls.length := by rw [← HM.out]; omega
            have htl : (Ls.take k).length = k := by rw [List.length_take]; omega
            have HPN : Hid (PP = subS (Ls.take k) j f ++ (O ++ [N]).reverse) := Lib.hid (by
              rw [HP.out, HPL.out hjk, List.reverse_append, HNE.out]
              simp)
            have HRN : Hid (RdL w0 (.slice (some ⟨bs, os, none⟩) (Ls.take k).length cs) (Ls.take k)) := Lib.hid (by rw [htl]; exact HR.out.cut' hkl)
            go_wp2_with fail
            exact ⟨⟨j, Ls.take k, O ++ [N], f, some ⟨bs, os, none⟩, q4, cs, c4, rfl, rfl, by rw [htl], rfl, hj1, by rw [htl]; omega, by rw [htl, ← hon]; omega, HRN, HO4, HB4, HPN⟩, by simp [sliceLen]; omega⟩
          · have hjkI : ¬ (j : Int) ≤ (k : Int) := by omega
            obtain ⟨N, hN⟩ : ∃ N, N = treeS (Ls.take k) := ⟨_, rfl⟩
            have hNall : ∀ x ∈ Ls.take k, x.length = 32 := HR.out.1.take k
            have hkl : k ≤ Ls.length := by rw [← HM.out]; omega
            have htl : (Ls.take k).length = k := by rw [List.length_take]; omega
            have hdl : (Ls.drop k).length = m1 - k := by rw [List.length_drop, HM.out]
            have hrdk : Hid (RdL w0 (.slice (some ⟨bs, os, none⟩) k cs) (Ls.take k)) := Lib.hid (HR.out.cut' hkl)
            have hrdd : Hid (RdL w0 (.slice (some ⟨bs, os + k * 32, none⟩) (m1 - k) (cs - k)) (Ls.drop k)) := Lib.hid (by have := HR.out.drop (k := k) hkl; rwa [← HM.out] at this)
            go_wp2_with fail
            have ht := total_any (some ⟨bs, os, none⟩) cs (Ls.take k) w2 (HS.out.below HB.out) (by rw [htl]; exact hrdk.out.below HB.out) (by omega)
            rw [htl] at ht
            refine ht.mono ?_
            clear ht
            rintro e w3 ⟨rfl, hb3⟩
            have HNL : Hid (N.length = 32) := Lib.hid (by rw [hN]; exact treeS_length _ hNall)
            have HNE := Lib.hid hN
            have hsN : (bysA N).size = 32 := by rw [bysA_size, HNL.out]
            have hfill := fill_all (bysA N) (bysA zeros32) (by rw [bysA_size, HNL.out]; rfl)
            rw [hsN] at hfill
            have HFILL := Lib.hid hfill
            have HOX := Lib.hid (HO.out.below hb3)
            have HBX : Hid (Below w0.heap.size w0 w3) := Lib.hid (HB.out.trans (hb3.mono HB.out.size))
            have hlit := Rd_lit w3 (bysA N) 22 32 1 (by rw [bysA_size, HNL.out]) (by decide)
            have HLIT := Lib.hid hlit
            have hs3 : w0.heap.size ≤ w3.heap.size := HBX.out.size
            rw [← HNE.out]
            clear hfill hlit hb3 hN hNall
            go_wp2_with (rw [z32r, HFILL.out]; at_builtin; go_must (refine app_ow rfl _ _ 61 61 rfl w0.heap.size 22 i0 (.agg (bysA zeros32)) 32 32 Tryd.underlying61 hi hz0 hz1 hz2 (by rfl) _ O.length _ rfl (HOX.out.2.alloc _) _ 1 _ rfl (Rd.src Tryd.underlying61 HLIT.out (bys_one _)) (by unfold maxLen; omega) (by omega) (by simp; omega) ?_); go_must (intro v4 w4 how4 hg4); go_must (obtain ⟨q4, c4, rfl⟩ := Ow_form how4); go_must (refine Hid.out ?_))
            have hg4 : (w3.alloc (.cells (bysA N) 22)).grownBy w4 (Value.slice qo O.length co).ownBlock := hg4
            have hx1 : Below w3.heap.size w3 (w3.alloc (.cells (bysA N) 22)) := (Below.refl _ _).alloc (Nat.le_refl _) _
            have hbx : Below w0.heap.size w0 (w3.alloc (.cells (bysA N) 22)) := HBX.out.trans (hx1.mono HBX.out.size)
            have HB4 : Hid (Below w0.heap.size w0 w4) := Lib.hid (hbx.grown hg4 hbx.size (fun j hj => (HOX.out.2.lt j hj).1))
            have HO4 : Hid (OwL w4 w0.heap.size (.slice q4 (O ++ [N]).length c4) (O ++ [N])) := Lib.hid ⟨HOX.out.1.append (All32.one HNL.out), by
              rw [List.length_append, List.flatten_append, bys_append]
              simpa [bysA] using how4⟩
            have hon : O.length + 1 = (O ++ [N]).length := by simp
            rw [hon]
            clear how4 hg4 hx1 hbx hs3 hsN
            refine Lib.hid ?_
            go_wp2_with (refine l_cutlo rfl 61 _ _ rfl 22 i0 Tryd.underlying61 hi bs os m1 cs k 32 hz1 rfl rfl hkm hlc ?_; go_simp)
            have HPN : Hid (PP = subS (Ls.drop k) (j - k) false ++ (O ++ [N]).reverse) := Lib.hid (by
              rw [HP.out, HPR.out hjk, List.reverse_append, HNE.out]
              simp)
            have hji : (j : Int) - (k : Int) = ((j - k : Nat) : Int) := by omega
            have HRN : Hid (RdL w0 (.slice (some ⟨bs, os + k * 32, none⟩) (Ls.drop k).length (cs - k)) (Ls.drop k)) := Lib.hid (by rw [hdl]; exact hrdd.out)
            exact ⟨⟨j - k, Ls.drop k, O ++ [N], false, some ⟨bs, os + k * 32, none⟩, q4, cs - k, c4, by rw [← hji], rfl, by rw [hdl], rfl, by omega, by rw [hdl]; omega, by rw [hdl, ← hon]; omega, HRN, HO4, HB4, HPN⟩, by simp [sliceLen]; omega⟩
        · have hjl : j = Ls.length := by omega
          have HPE0 := Lib.hid (subS_end Ls j f (by omega))
          have hge : ¬ (j : Int) < (Ls.length : Int) := by omega
          cases f with
          | true =>
            have HPE : Hid (PP = O.reverse) := Lib.hid (by rw [HP.out, HPE0.out]; rfl)
            clear hjl
            go_wp2_with fail
            have HOLN : Hid (PP.length = O.length) := Lib.hid (by rw [HPE.out, List.length_reverse])
            have HRV := Lib.hid (rev_any O.length qo co O wr w0.heap.size rfl HO.out)
            go_wp2_with fail
            refine HRV.out.mono ?_
            rintro e w9 ⟨rfl, ho9, hg9⟩
            have HO9 := Lib.hid ho9
            have HB9 : Hid (Below w0.heap.size w0 w9) := Lib.hid (HB.out.grown hg9 HB.out.size (fun k hk => (HO.out.2.lt k hk).1))
            clear ho9 hg9
            go_wp2_with fail
            go_ret2
            exact ⟨qo, co, by rw [HOLN.out]; rfl, by rw [HOLN.out, HPE.out]; exact HO9.out, HB9.out⟩
          | false =>
            obtain ⟨N, hN⟩ : ∃ N, N = treeS Ls := ⟨_, rfl⟩
            have hNall : ∀ x ∈ Ls, x.length = 32 := HR.out.1
            clear hjl
            go_wp2_with fail
            have ht := total_any qs cs Ls wr (HS.out.below HB.out) (HR.out.below HB.out) (by omega)
            refine ht.mono ?_
            clear ht
            rintro e w3 ⟨rfl, hb3⟩
            have HNL : Hid (N.length = 32) := Lib.hid (by rw [hN]; exact treeS_length _ hNall)
            have HNE := Lib.hid hN
            have hsN : (bysA N).size = 32 := by rw [bysA_size, HNL.out]
            have hfill := fill_all (bysA N) (bysA zeros32) (by rw [bysA_size, HNL.out]; rfl)
            rw [hsN] at hfill
            have HFILL := Lib.hid hfill
            have HOX := Lib.hid (HO.out.below hb3)
            have HBX : Hid (Below w0.heap.size w0 w3) := Lib.hid (HB.out.trans (hb3.mono HB.out.size))
            have hlit := Rd_lit w3 (bysA N) 22 32 1 (by rw [bysA_size, HNL.out]) (by decide)
            have HLIT := Lib.hid hlit
            have hs3 : w0.heap.size ≤ w3.heap.size := HBX.out.size
            rw [← HNE.out]
            clear hfill hlit hb3 hN hNall
            go_wp2_with (rw [z32r, HFILL.out]; at_builtin; go_must (refine app_ow rfl _ _ 61 61 rfl w0.heap.size 22 i0 (.agg (bysA zeros32)) 32 32 Tryd.underlying61 hi hz0 hz1 hz2 (by rfl) _ O.length _ rfl (HOX.out.2.alloc _) _ 1 _ rfl (Rd.src Tryd.underlying61 HLIT.out (bys_one _)) (by unfold maxLen; omega) (by omega) (by simp; omega) ?_); go_must (intro v4 w4 how4 hg4); go_must (obtain ⟨q4, c4, rfl⟩ := Ow_form how4); go_must (refine Hid.out ?_))
            have hg4 : (w3.alloc (.cells (bysA N) 22)).grownBy w4 (Value.slice qo O.length co).ownBlock := hg4
            have hx1 : Below w3.heap.size w3 (w3.alloc (.cells (bysA N) 22)) := (Below.refl _ _).alloc (Nat.le_refl _) _
            have hbx : Below w0.heap.size w0 (w3.alloc (.cells (bysA N) 22)) := HBX.out.trans (hx1.mono HBX.out.size)
            have HB4 : Hid (Below w0.heap.size w0 w4) := Lib.hid (hbx.grown hg4 hbx.size (fun j hj => (HOX.out.2.lt j hj).1))
            have HO4 : Hid (OwL w4 w0.heap.size (.slice q4 (O ++ [N]).length c4) (O ++ [N])) := Lib.hid ⟨HOX.out.1.append (All32.one HNL.out), by
              rw [List.length_append, List.flatten_append, bys_append]
              simpa [bysA] using how4⟩
            have hon : O.length + 1 = (O ++ [N]).length := by simp
            rw [hon]
            clear how4 hg4 hx1 hbx hs3 hsN
            refine Lib.hid ?_
            have HPE : Hid (PP = (O ++ [N]).reverse) := Lib.hid (by rw [HP.out, HPE0.out, List.reverse_append, HNE.out]; rfl)
            obtain ⟨O2, hO2⟩ : ∃ O2, O2 = O ++ [N] := ⟨_, rfl⟩
            rw [← hO2] at HPE HO4 ⊢
            clear hO2 hon
            go_wp2_with fail
            have HOLN : Hid (PP.length = O2.length) := Lib.hid (by rw [HPE.out, List.length_reverse])
            have HRV := Lib.hid (rev_any O2.length q4 c4 O2 w4 w0.heap.size rfl HO4.out)
            go_wp2_with fail
            refine HRV.out.mono ?_
            rintro e w9 ⟨rfl, ho9, hg9⟩
            have HO9 := Lib.hid ho9
            have HB9 : Hid (Below w0.heap.size w0 w9) := Lib.hid (HB4.out.grown hg9 HB4.out.size (fun k hk => (HO4.out.2.lt k hk).1))
            clear ho9 hg9
            go_wp2_with fail
            go_ret2
            exact ⟨q4, c4, by rw [HOLN.out]; rfl, by rw [HOLN.out, HPE.out]; exact HO9.out, HB9.out⟩
end Ref
end Go.Proofs.YtkembhonfehlbaaDoor

/- The walk of the log's Inclusion. -/
import Derived.Test.YtkembhonfehlbaaDoorRfcL
import Derived.Test.YtkembhonfehlbaaDoorCutLo
namespace Go.Proofs.YtkembhonfehlbaaDoor
open Go.RowKit Bits Mem Sha
namespace Ref
theorem flat_drop (L : List (List UInt8)) (h : All32 L) (k : Nat) (hk : k ≤ L.length) : (L.drop k).flatten = L.flatten.drop (k * 32) := by
  have h1 : L.flatten = (L.take k).flatten ++ (L.drop k).flatten := by rw [← List.flatten_append, List.take_append_drop]
  have h2 := (h.take k).flat
  rw [List.length_take, Nat.min_eq_left hk] at h2
  rw [h1, ← h2, List.drop_left]
theorem All32.drop {L : List (List UInt8)} (h : All32 L) (k : Nat) : All32 (L.drop k) := fun x hx => h x (List.mem_of_mem_drop hx)
theorem RdL.drop {w : World} {b off c k : Nat} {L : List (List UInt8)} (h : RdL w (.slice (some ⟨b, off, none⟩) L.length c) L) (hk : k ≤ L.length) : RdL w (.slice (some ⟨b, off + k * 32, none⟩) (L.length - k) (c - k)) (L.drop k) := by
  have hl := (h.1.drop k).flat
  refine ⟨h.1.drop k, ?_⟩
  rw [List.length_drop] at hl ⊢
  obtain ⟨h1, h2⟩ := h.2
  refine ⟨by rw [bys_length, hl], ?_⟩
  rcases h2 with ⟨hv, _⟩ | ⟨b', off', cap, hv, hb, hnc, hcm, hc⟩
  · cases hv
  · cases hv
    refine .inr ⟨b, off + k * 32, c - k, rfl, hb, by omega, by omega, fun j u hj => ?_⟩
    rw [Nat.add_assoc]
    refine hc _ u ?_
    rw [flat_drop L h.1 k hk] at hj
    unfold bys at hj ⊢
    rw [List.map_drop, List.getElem?_drop] at hj
    exact hj
/-- Reverse does what it says, on rows of n sums. -/
def RevOk (n : Nat) : Prop := ∀ (q : Option Addr) (c : Nat) (O : List (List UInt8)) (x : World) (B : Nat), O.length = n → OwL x B (.slice q n c) O →
  Calls Tryd.prog 69 #[.slice q n c] x fun e w' => e = .returned (.tuple #[]) ∧ OwL w' B (.slice q n c) O.reverse ∧ x.grownBy w' (Value.slice q n c).ownBlock
set_option maxRecDepth 100000 in
set_option maxHeartbeats 1000000 in
theorem rev_short (n : Nat) (h : n ≤ 1) : RevOk n := by
  intro q c O x B hn ho
  have HO := Lib.hid ho
  have HR : Hid (O.reverse = O) := Lib.hid (by
    match O, hn with
    | [], _ => rfl
    | [_], _ => rfl
    | _ :: _ :: _, hn => simp at hn; omega)
  have h0 : ¬ (0 : Int) < (n : Int) - 1 := by omega
  clear ho
  go_enter Tryd.func69, Tryd.ntmps69
  go_wp2_with fail
  go_loopw [2, 3] (fun a b wr => a = .int .i64 0 ∧ b = .int .i64 ((n : Int) - 1) ∧ wr = x) (fun _ _ _ => 0)
  case atStart => exact ⟨rfl, rfl, rfl⟩
  case round =>
    obtain ⟨rfl, rfl, hw⟩ := hrel
    subst hw
    go_wp2_with fail
    refine bodyPost_end (results_none rfl _ _ _) rfl ?_
    exact ⟨rfl, by rw [HR.out]; exact HO.out, ⟨rfl, rfl, rfl, Nat.le_refl _, fun _ _ _ => rfl⟩⟩
set_option maxRecDepth 100000 in
set_option maxHeartbeats 8000000 in
theorem inclusion_any (lb base : Nat) (q : Option Addr) (c : Nat) (D : List (List UInt8)) (i n : Nat) (w : World) (hS : Sha.Tabs w) (h : LogAt w lb base q c D) (hD : D.length ≤ 1000) (hn : n ≤ D.length) (hin : i < n) (hrev : RevOk (Rfc.path nodeS (sha []) (D.take n) i).length) :
    Calls Tryd.prog 40 #[.pointer (some ⟨lb, 0, none⟩), .int .i64 i, .int .i64 n] w fun e w' =>
      ∃ q' c', e = .returned (.tuple #[.slice q' (Rfc.path nodeS (sha []) (D.take n) i).length c', .int .i64 0]) ∧ OwL w' w.heap.size (.slice q' (Rfc.path nodeS (sha []) (D.take n) i).length c') (Rfc.path nodeS (sha []) (D.take n) i) ∧ Below w.heap.size w w' := by
  obtain ⟨i0, hi, hz0, hz1, hz2⟩ := parts3 infoA32
  have hrd := h.2.rd
  have hcap := Rd_cap hrd.2
  have hcD := hcap.1
  have hcM := hcap.2
  have c0 := h.cell
  have HLG := Lib.hid h
  have HS := Lib.hid hS
  have HREV := Lib.hid hrev
  have hTl : (D.take n).length = n := by rw [List.length_take]; omega
  have hcut := hrd.cut' hn
  have HCUT : Hid (RdL w (.slice q (D.take n).length c) (D.take n)) := Lib.hid (by rw [hTl]; exact hcut)
  obtain ⟨T, hT⟩ : ∃ T, T = D.take n := ⟨_, rfl⟩
  rw [← hT] at HREV HCUT hTl ⊢
  obtain ⟨PP, hPP⟩ : ∃ PP, PP = Rfc.path nodeS (sha []) T i := ⟨_, rfl⟩
  rw [← hPP] at HREV ⊢
  have HPP := Lib.hid hPP
  have hnI : (n : Int) ≤ (D.length : Int) := by omega
  have hnc : n ≤ c := by omega
  have hn1 : ¬ (n : Int) < 1 := by omega
  have hi0 : ¬ (n : Int) ≤ (i : Int) := by omega
  have hbg : ¬ (D.length : Int) < (n : Int) := by omega
  have hd1 : decide (D.length < n) = false := decide_eq_false (by omega)
  have hd3 : decide (n ≤ i) = false := decide_eq_false (by omega)
  have hd4 : decide ((n : Int) ≤ (i : Int)) = false := decide_eq_false (by omega)
  have hd5 : decide ((D.length : Int) < (n : Int)) = false := decide_eq_false (by omega)
  have hd2 : decide ((i : Int) < 0) = false := decide_eq_false (by omega)
  clear h hS hrev hrd hcap hcut hT hPP
  go_enter Tryd.func40, Tryd.ntmps40
  go_wp2_with fail
  refine (loglen_any lb base q c D w HLG.out).mono ?_
  rintro e w0 ⟨rfl, hw0⟩
  subst hw0
  go_wp2_with fail
  (try simp only [hd1, hd2, hd3, hd4, hd5])
  go_loopw [1, 8, 9] (fun iv ov sv wr => ∃ (j : Nat) (Ls O : List (List UInt8)) (qs qo : Option Addr) (cs co : Nat), iv = .int .i64 j ∧ ov = .slice qo O.length co ∧ sv = .slice qs Ls.length cs ∧ j < Ls.length ∧ O.length + Ls.length ≤ n ∧
    Hid (RdL w0 (.slice qs Ls.length cs) Ls) ∧ Hid (OwL wr w0.heap.size (.slice qo O.length co) O) ∧ Hid (Below w0.heap.size w0 wr) ∧ Hid (PP = Rfc.path nodeS (sha []) Ls j ++ O.reverse)) (fun _ _ sv _ => sliceLen sv)
  case atStart => exact ⟨i, T, [], q, none, c, 0, rfl, rfl, by rw [hTl], by omega, by simp; omega, HCUT, Lib.hid ⟨(by intro x h; cases h), Ow.nil _ _ _ _⟩, Lib.hid (Below.refl _ _), Lib.hid (by rw [HPP.out]; simp)⟩
  case round =>
    obtain ⟨j, Ls, O, qs, qo, cs, co, rfl, rfl, rfl, hj, hOL, HR, HO, HB, HP⟩ := hrel
    by_cases h2 : 2 ≤ Ls.length
    · obtain ⟨bs, os, hqe, hbs, hlc, hcM2, _⟩ := Rd_lt HR.out.2 (by omega)
      subst hqe
      obtain ⟨m, hm⟩ : ∃ m, m = Ls.length := ⟨_, rfl⟩
      have HHF := Lib.hid (half_any m · (by omega) (by omega))
      have hk1 := Rfc.hf_lt m (by omega)
      have hk0 := Rfc.hf_pos m
      have HPL := Lib.hid (Rfc.path_left nodeS (sha []) Ls j h2)
      have HPR := Lib.hid (Rfc.path_right nodeS (sha []) Ls j h2)
      rw [← hm] at HPL HPR hlc hOL hj ⊢
      obtain ⟨k, hk⟩ : ∃ k, k = Rfc.hf m := ⟨_, rfl⟩
      rw [← hk] at HHF hk1 hk0 HPL HPR
      have HM := Lib.hid hm
      have hmI : (1 : Int) < (m : Int) := by omega
      have hkm : k < m := hk1
      have hkc : k ≤ cs := by omega
      have hkcI : (k : Int) ≤ (cs : Int) := by omega
      have hkmI : (k : Int) ≤ (m : Int) := by omega
      clear hk hm
      go_wp2_with fail
      refine (HHF.out wr).mono ?_
      rintro e w2 ⟨rfl, hw2⟩
      subst hw2
      by_cases hjk : j < k
      · have hjkI : (j : Int) < (k : Int) := by omega
        obtain ⟨N, hN⟩ : ∃ N, N = treeS (Ls.drop k) := ⟨_, rfl⟩
        have hNall : ∀ x ∈ Ls.drop k, x.length = 32 := HR.out.1.drop k
        have hrdk : Hid (RdL w0 (.slice (some ⟨bs, os + k * 32, none⟩) (m - k) (cs - k)) (Ls.drop k)) := Lib.hid (by have := HR.out.drop (k := k) (by rw [← HM.out]; omega); rwa [← HM.out] at this)
        have hdl : (Ls.drop k).length = m - k := by rw [List.length_drop, HM.out]
        go_wp2_with (refine l_cutlo rfl 61 _ _ rfl 22 i0 Tryd.underlying61 hi bs os m cs k 32 hz1 rfl rfl hkm hlc ?_)
        have ht := total_any (some ⟨bs, os + k * 32, none⟩) (cs - k) (Ls.drop k) w2 (HS.out.below HB.out) (by rw [hdl]; exact hrdk.out.below HB.out) (by omega)
        rw [hdl] at ht
        refine ht.mono ?_
        clear ht
        rintro e w3 ⟨rfl, hb3⟩
        have HNL : Hid (N.length = 32) := Lib.hid (by rw [hN]; exact treeS_length _ hNall)
        have HNE := Lib.hid hN
        have hsN : (bysA N).size = 32 := by rw [bysA_size, HNL.out]
        have hfill := fill_all (bysA N) (bysA zeros32) (by rw [bysA_size, HNL.out]; rfl)
        rw [hsN] at hfill
        have HFILL := Lib.hid hfill
        have HOX := Lib.hid (HO.out.below hb3)
        have HBX : Hid (Below w0.heap.size w0 w3) := Lib.hid (HB.out.trans (hb3.mono HB.out.size))
        have hlit := Rd_lit w3 (bysA N) 22 32 1 (by rw [bysA_size, HNL.out]) (by decide)
        have HLIT := Lib.hid hlit
        have hs3 : w0.heap.size ≤ w3.heap.size := HBX.out.size
        rw [← HNE.out]
        clear hfill hlit hb3 hN hNall
        go_wp2_with (rw [z32r, HFILL.out]; at_builtin; go_must (refine app_ow rfl _ _ 61 61 rfl w0.heap.size 22 i0 (.agg (bysA zeros32)) 32 32 Tryd.underlying61 hi hz0 hz1 hz2 (by rfl) _ O.length _ rfl (HOX.out.2.alloc _) _ 1 _ rfl (Rd.src Tryd.underlying61 HLIT.out (bys_one _)) (by unfold maxLen; omega) (by omega) (by simp; omega) ?_); go_must (intro v4 w4 how4 hg4); go_must (obtain ⟨q4, c4, rfl⟩ := Ow_form how4))
        have hg4 : (w3.alloc (.cells (bysA N) 22)).grownBy w4 (Value.slice qo O.length co).ownBlock := hg4
        have hx1 : Below w3.heap.size w3 (w3.alloc (.cells (bysA N) 22)) := (Below.refl _ _).alloc (Nat.le_refl _) _
        have hbx : Below w0.heap.size w0 (w3.alloc (.cells (bysA N) 22)) := HBX.out.trans (hx1.mono HBX.out.size)
        have HB4 : Hid (Below w0.heap.size w0 w4) := Lib.hid (hbx.grown hg4 hbx.size (fun j hj => (HOX.out.2.lt j hj).1))
        have HO4 : Hid (OwL w4 w0.heap.size (.slice q4 (O ++ [N]).length c4) (O ++ [N])) := Lib.hid ⟨HOX.out.1.append (All32.one HNL.out), by
          rw [List.length_append, List.flatten_append, bys_append]
          simpa [bysA] using how4⟩
        have hkl : k ≤ Ls.length := by rw [← HM.out]; omega
        have htl : (Ls.take k).length = k := by rw [List.length_take]; omega
        clear how4 hg4 hx1 hbx
        have HPN : Hid (PP = Rfc.path nodeS (sha []) (Ls.take k) j ++ (O ++ [N]).reverse) := Lib.hid (by
          rw [HP.out, HPL.out hjk, List.reverse_append, HNE.out]
          simp [treeS])
        have HRN : Hid (RdL w0 (.slice (some ⟨bs, os, none⟩) (Ls.take k).length cs) (Ls.take k)) := Lib.hid (by rw [htl]; exact HR.out.cut' hkl)
        have hon : (O ++ [N]).length = O.length + 1 := by simp
        exact ⟨⟨j, Ls.take k, O ++ [N], some ⟨bs, os, none⟩, q4, cs, c4, rfl, by rw [hon], by rw [htl], by omega, by omega, HRN, HO4, HB4, HPN⟩, by simp [sliceLen]; omega⟩
      · have hjkI : ¬ (j : Int) < (k : Int) := by omega
        obtain ⟨N, hN⟩ : ∃ N, N = treeS (Ls.take k) := ⟨_, rfl⟩
        have hNall : ∀ x ∈ Ls.take k, x.length = 32 := HR.out.1.take k
        have hkl : k ≤ Ls.length := by rw [← HM.out]; omega
        have htl : (Ls.take k).length = k := by rw [List.length_take]; omega
        have hdl : (Ls.drop k).length = m - k := by rw [List.length_drop, HM.out]
        have hrdk : Hid (RdL w0 (.slice (some ⟨bs, os, none⟩) k cs) (Ls.take k)) := Lib.hid (HR.out.cut' hkl)
        have hrdd : Hid (RdL w0 (.slice (some ⟨bs, os + k * 32, none⟩) (m - k) (cs - k)) (Ls.drop k)) := Lib.hid (by have := HR.out.drop (k := k) hkl; rwa [← HM.out] at this)
        go_wp2_with fail
        have ht := total_any (some ⟨bs, os, none⟩) cs (Ls.take k) w2 (HS.out.below HB.out) (by rw [htl]; exact hrdk.out.below HB.out) (by omega)
        rw [htl] at ht
        refine ht.mono ?_
        clear ht
        rintro e w3 ⟨rfl, hb3⟩
        have HNL : Hid (N.length = 32) := Lib.hid (by rw [hN]; exact treeS_length _ hNall)
        have HNE := Lib.hid hN
        have hsN : (bysA N).size = 32 := by rw [bysA_size, HNL.out]
        have hfill := fill_all (bysA N) (bysA zeros32) (by rw [bysA_size, HNL.out]; rfl)
        rw [hsN] at hfill
        have HFILL := Lib.hid hfill
        have HOX := Lib.hid (HO.out.below hb3)
        have HBX : Hid (Below w0.heap.size w0 w3) := Lib.hid (HB.out.trans (hb3.mono HB.out.size))
        have hlit := Rd_lit w3 (bysA N) 22 32 1 (by rw [bysA_size, HNL.out]) (by decide)
        have HLIT := Lib.hid hlit
        have hs3 : w0.heap.size ≤ w3.heap.size := HBX.out.size
        rw [← HNE.out]
        clear hfill hlit hb3 hN hNall
        go_wp2_with (rw [z32r, HFILL.out]; at_builtin; go_must (refine app_ow rfl _ _ 61 61 rfl w0.heap.size 22 i0 (.agg (bysA zeros32)) 32 32 Tryd.underlying61 hi hz0 hz1 hz2 (by rfl) _ O.length _ rfl (HOX.out.2.alloc _) _ 1 _ rfl (Rd.src Tryd.underlying61 HLIT.out (bys_one _)) (by unfold maxLen; omega) (by omega) (by simp; omega) ?_); go_must (intro v4 w4 how4 hg4); go_must (obtain ⟨q4, c4, rfl⟩ := Ow_form how4))
        have hg4 : (w3.alloc (.cells (bysA N) 22)).grownBy w4 (Value.slice qo O.length co).ownBlock := hg4
        have hx1 : Below w3.heap.size w3 (w3.alloc (.cells (bysA N) 22)) := (Below.refl _ _).alloc (Nat.le_refl _) _
        have hbx : Below w0.heap.size w0 (w3.alloc (.cells (bysA N) 22)) := HBX.out.trans (hx1.mono HBX.out.size)
        have HB4 : Hid (Below w0.heap.size w0 w4) := Lib.hid (hbx.grown hg4 hbx.size (fun j hj => (HOX.out.2.lt j hj).1))
        have HO4 : Hid (OwL w4 w0.heap.size (.slice q4 (O ++ [N]).length c4) (O ++ [N])) := Lib.hid ⟨HOX.out.1.append (All32.one HNL.out), by
          rw [List.length_append, List.flatten_append, bys_append]
          simpa [bysA] using how4⟩
        clear how4 hg4 hx1 hbx
        go_wp2_with (refine l_cutlo rfl 61 _ _ rfl 22 i0 Tryd.underlying61 hi bs os m cs k 32 hz1 rfl rfl hkm hlc ?_)
        have HPN : Hid (PP = Rfc.path nodeS (sha []) (Ls.drop k) (j - k) ++ (O ++ [N]).reverse) := Lib.hid (by
          rw [HP.out, HPR.out hjk, List.reverse_append, HNE.out]
          simp [treeS])
        have hon : (O ++ [N]).length = O.length + 1 := by simp
        have hji : (j : Int) - (k : Int) = ((j - k : Nat) : Int) := by omega
        have HRN : Hid (RdL w0 (.slice (some ⟨bs, os + k * 32, none⟩) (Ls.drop k).length (cs - k)) (Ls.drop k)) := Lib.hid (by rw [hdl]; exact hrdd.out)
        exact ⟨⟨j - k, Ls.drop k, O ++ [N], some ⟨bs, os + k * 32, none⟩, q4, cs - k, c4, by rw [← hji], by rw [hon], by rw [hdl], by omega, by omega, HRN, HO4, HB4, HPN⟩, by simp [sliceLen]; omega⟩
    · have h1 : Ls.length = 1 := by omega
      rw [h1] at hj ⊢
      have HPE : Hid (PP = O.reverse) := Lib.hid (by rw [HP.out, Rfc.path_one _ _ _ _ h2]; rfl)
      have HOLN : Hid (PP.length = O.length) := Lib.hid (by rw [HPE.out, List.length_reverse])
      rw [HOLN.out] at HREV
      have HRV := Lib.hid (HREV.out qo co O wr w0.heap.size rfl HO.out)
      go_wp2_with fail
      refine HRV.out.mono ?_
      rintro e w9 ⟨rfl, ho9, hg9⟩
      have HO9 := Lib.hid ho9
      have HB9 : Hid (Below w0.heap.size w0 w9) := Lib.hid (HB.out.grown hg9 HB.out.size (fun k hk => (HO.out.2.lt k hk).1))
      clear ho9 hg9
      go_wp2_with fail
      go_ret2
      exact ⟨qo, co, by rw [HOLN.out]; rfl, by rw [HOLN.out, HPE.out]; exact HO9.out, HB9.out⟩
end Ref
end Go.Proofs.YtkembhonfehlbaaDoor

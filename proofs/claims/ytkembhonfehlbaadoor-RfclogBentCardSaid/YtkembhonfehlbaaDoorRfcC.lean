/- The walk of rfclog.CheckInclusion. -/
import Derived.Test.YtkembhonfehlbaaDoorRfcK
import Derived.Test.YtkembhonfehlbaaDoorRfcQ
import Derived.Test.YtkembhonfehlbaaDoorEqR
namespace Go.Proofs.YtkembhonfehlbaaDoor
open Go.RowKit Bits Mem Sha
namespace Ref
/-- What CheckInclusion answers. -/
def chkI (l : List UInt8) (i n : Int) (P : List (List UInt8)) (root : List UInt8) : Int :=
  if n < 1 ∨ i < 0 ∨ n ≤ i then 1 else if Rfc.runI nodeS i.toNat (n.toNat - 1) (leafS l) P = some root then 0 else 17
theorem right_up {a b : Nat} (h : Rfc.right a b = true) (hb : b ≠ 0) : (a % 2 = 1 ∨ a = b) ∧ a ≠ 0 := by
  unfold Rfc.right at h
  simp at h
  omega
theorem info_of {M : List UInt8} (h : M.length = 32) : (Tryd.prog.info? 22).map (·.size) = some (bysA M).size := by rw [bysA_size, h]; exact info32
set_option maxRecDepth 100000 in
set_option maxHeartbeats 8000000 in
theorem checkI_any (q : Option Addr) (c : Nat) (l : List UInt8) (i n : Int) (qp : Option Addr) (cp : Nat) (P : List (List UInt8)) (root : List UInt8) (w : World) (hS : Sha.Tabs w) (hl : Rd w 1 (.slice q l.length c) l.length (bys l)) (h : l.length ≤ 1000000) (hp : RdL w (.slice qp P.length cp) P) (hr : root.length = 32) (hn : n ≤ 9223372036854775807) :
    Calls Tryd.prog 35 #[.slice q l.length c, .int .i64 i, .int .i64 n, .slice qp P.length cp, .agg (bysA root)] w fun e w' => e = .returned (.int .i64 (chkI l i n P root)) ∧ Below w.heap.size w w' := by
  have HS := Lib.hid hS
  have HL := Lib.hid hl
  have HP := Lib.hid hp
  have HR := Lib.hid hr
  have hcap := Rd_cap hp.2
  unfold maxLen at hcap
  have hPl : P.length ≤ 9223372036854775807 := by omega
  clear hcap
  clear hS hl hp hr
  by_cases h1 : n < 1
  ·
    as_aux_lemma =>
      have HE : Hid (chkI l i n P root = 1) := Lib.hid (by unfold chkI; rw [if_pos (by omega)])
      go_enter Tryd.func35, Tryd.ntmps35
      go_wp2_with fail
      go_ret
      exact ⟨by rw [HE.out]; rfl, (Below.refl _ _).alloc (Nat.le_refl _) _⟩
  · by_cases h2 : i < 0
    ·
      as_aux_lemma =>
        have HE : Hid (chkI l i n P root = 1) := Lib.hid (by unfold chkI; rw [if_pos (by omega)])
        go_enter Tryd.func35, Tryd.ntmps35
        go_wp2_with fail
        go_ret
        exact ⟨by rw [HE.out]; rfl, (Below.refl _ _).alloc (Nat.le_refl _) _⟩
    · by_cases h3 : n ≤ i
      ·
        as_aux_lemma =>
          have HE : Hid (chkI l i n P root = 1) := Lib.hid (by unfold chkI; rw [if_pos (by omega)])
          go_enter Tryd.func35, Tryd.ntmps35
          go_wp2_with fail
          go_ret
          exact ⟨by rw [HE.out]; rfl, (Below.refl _ _).alloc (Nat.le_refl _) _⟩
      · obtain ⟨iN, rfl⟩ : ∃ k : Nat, i = (k : Int) := ⟨i.toNat, by omega⟩
        obtain ⟨m, rfl⟩ : ∃ m : Nat, n = (m : Int) + 1 := ⟨(n - 1).toNat, by omega⟩
        have him : iN ≤ m := by omega
        have hmb : m < 9223372036854775807 := by omega
        have HE : Hid (chkI l iN ((m : Int) + 1) P root = if Rfc.runI nodeS iN m (leafS l) P = some root then 0 else 17) := Lib.hid (by
          unfold chkI
          rw [if_neg (by omega), show ((m : Int) + 1).toNat - 1 = m by omega]
          rfl)
        obtain ⟨w1, hw1⟩ : ∃ w1, w1 = (w.alloc (.cells (bysA root) 22)).alloc (.cells #[.int .i64 (iN : Int), .int .i64 (m : Int)] 118) := ⟨_, rfl⟩
        have hb1 : Below w.heap.size w w1 := by rw [hw1]; exact ((Below.refl _ _).alloc (Nat.le_refl _) _).alloc (by simp) _
        have hrr : w1.heap[w.heap.size]? = some (.cells (bysA root) 22 (0, 0)) := by rw [hw1]; exact (Rg.heap_alloc_past _ _ _ (by simp)).trans (Rg.heap_alloc_at w _ _ rfl)
        have hrc : w1.heap[w.heap.size + 1]? = some (.cells #[.int .i64 (iN : Int), .int .i64 (m : Int)] 118 (0, 0)) := by rw [hw1]; exact Rg.heap_alloc_at _ _ _ (by simp)
        have HW1 := Lib.hid hw1
        have HB1 := Lib.hid hb1
        have HRR1 := Lib.hid hrr
        have HRC1 := Lib.hid hrc
        clear hw1 hb1 hrr hrc
        go_enter Tryd.func35, Tryd.ntmps35
        go_wp2_with fail
        rw [← HW1.out]
        refine (entrySum_any q c l w1 (HS.out.below HB1.out) (HL.out.below HB1.out) h).mono ?_
        rintro e w2 ⟨rfl, hb2⟩
        obtain ⟨E, hE⟩ : ∃ E, E = leafS l := ⟨_, rfl⟩
        have HEL : Hid (E.length = 32) := Lib.hid (by rw [hE]; exact leafS_length l)
        have HIE := Lib.hid (info_of HEL.out)
        have HEE := Lib.hid hE
        rw [← hE]
        rw [← hE] at HE
        obtain ⟨w3, hw3⟩ : ∃ w3, w3 = w2.alloc (.cells (bysA E) 22) := ⟨_, rfl⟩
        have hb23 : Below w2.heap.size w2 w3 := by rw [hw3]; exact (Below.refl _ _).alloc (Nat.le_refl _) _
        have hb13 : Below w1.heap.size w1 w3 := hb2.trans (hb23.mono hb2.size)
        have hrs : w3.heap[w2.heap.size]? = some (.cells (bysA E) 22 (0, 0)) := by rw [hw3]; exact Rg.heap_alloc_at _ _ _ rfl
        have HW3 := Lib.hid hw3
        have HRS3 := Lib.hid hrs
        have HRR3 := Lib.hid (Rp.row_le hb13 HRR1.out)
        have HRC3 := Lib.hid (Rp.row_le hb13 HRC1.out)
        have HB3 : Hid (Below w.heap.size w w3) := Lib.hid (HB1.out.trans (hb13.mono HB1.out.size))
        have hsb1 : w.heap.size + 1 < w2.heap.size := Nat.lt_of_lt_of_le (lt_of_heap HRC1.out) hb2.size
        clear hE hw3 hb23 hb13 hrs hb2
        go_wp2_with (refine Rg.store_row_new rfl 22 _ _ rfl w2.heap.size rfl rfl 22 _ (bysA E) rfl HIE.out (by rw [bysA_size, HEL.out]; rfl) (bysA_one _) ?_)
        rw [← HW3.out]
        obtain ⟨sb, hsb⟩ : ∃ sb, sb = w2.heap.size := ⟨_, rfl⟩
        rw [← hsb] at HRS3 hsb1 ⊢
        clear hsb HW3
        go_loopw [34] (fun kv wr => ∃ (k a b : Nat) (s : List UInt8), k ≤ P.length ∧ kv = .int .i64 k ∧ a ≤ b ∧ b < 9223372036854775807 ∧ Hid (s.length = 32) ∧ Hid (wr.heap[w.heap.size + 1]? = some (.cells #[.int .i64 (a : Int), .int .i64 (b : Int)] 118 (0, 0))) ∧
          Hid (wr.heap[sb]? = some (.cells (bysA s) 22 (0, 0))) ∧ Hid (wr.heap[w.heap.size]? = some (.cells (bysA root) 22 (0, 0))) ∧ Hid (Below w.heap.size w wr) ∧ Hid (Rfc.runI nodeS iN m E P = Rfc.runI nodeS a b s (P.drop k))) (fun kv _ => P.length - (intOf kv).toNat)
        case atStart => exact ⟨0, iN, m, E, Nat.zero_le _, rfl, him, hmb, HEL, HRC3, HRS3, HRR3, HB3, Lib.hid (by rw [List.drop_zero])⟩
        case round =>
          obtain ⟨k, a, b, s, hk, rfl, hab, hbb, HSL, HCB, HSB, HRB, HB, HRUN⟩ := hrel
          clear hn hmb h1 h2 h3 him
          by_cases hlt : k < P.length
          ·
            have hltI : (k : Int) < P.length := by omega
            have HRL : Hid (RdL wr (.slice qp P.length cp) P) := Lib.hid (HP.out.below HB.out)
            obtain ⟨bp, op, hqe, hbp, hxl1, hxl2, hload⟩ := HRL.out.load hlt
            subst hqe
            clear hxl1 hxl2
            have hkb : k < 9223372036854775807 := by omega
            obtain ⟨X, hX⟩ : ∃ X, X = P.getD k [] := ⟨_, rfl⟩
            have HXL : Hid (X.length = 32) := Lib.hid (by rw [hX]; exact HP.out.1.getD hlt)
            have HDR : Hid (P.drop k = X :: P.drop (k + 1)) := Lib.hid (by rw [hX, List.drop_eq_getElem_cons hlt]; simp [List.getD, hlt])
            rw [← hX] at hload
            have HLD := Lib.hid (hload wr (Below.refl _ _))
            have HIX := Lib.hid (info_of HXL.out)
            have HIS := Lib.hid (info_of HSL.out)
            have HIC := Lib.hid (infoCl a b)
            obtain ⟨wa, hwa⟩ : ∃ wa, wa = wr.alloc (.cells (bysA X) 22) := ⟨_, rfl⟩
            have hba : Below wr.heap.size wr wa := by rw [hwa]; exact (Below.refl _ _).alloc (Nat.le_refl _) _
            have HXA : Hid (wa.heap[wr.heap.size]? = some (.cells (bysA X) 22 (0, 0))) := Lib.hid (by rw [hwa]; exact Rg.heap_alloc_at _ _ _ rfl)
            have HCA := Lib.hid (Rp.row_le hba HCB.out)
            have HSA := Lib.hid (Rp.row_le hba HSB.out)
            have HRA := Lib.hid (Rp.row_le hba HRB.out)
            have HBA : Hid (Below w.heap.size w wa) := Lib.hid (HB.out.trans (hba.mono HB.out.size))
            have c1 : wa.cell? ⟨w.heap.size + 1, 1, none⟩ = some (.int .i64 (b : Int)) := (cell_of_row _ _ _ _ _ _ HCA.out).trans rfl
            have HWA := Lib.hid hwa
            obtain ⟨xb, hxb⟩ : ∃ xb, xb = wr.heap.size := ⟨_, rfl⟩
            have hxs : sb < xb := by rw [hxb]; exact lt_of_heap HSB.out
            rw [← hxb] at HXA
            clear hload hX hwa hba
            by_cases hb0 : b = 0
            · have hbI : ((b : Int) == 0) = true := by rw [hb0]; rfl
              have HRN : Hid (Rfc.runI nodeS iN m E P = none) := Lib.hid (by rw [HRUN.out, HDR.out, Rfc.runI, if_pos hb0])
              go_wp2_with (first | (refine l_load rfl _ _ rfl _ HLD.out ?_) | (refine Rg.store_row_new rfl 22 _ _ rfl wr.heap.size rfl rfl 22 _ (bysA X) rfl HIX.out (by rw [bysA_size, HXL.out]; rfl) (bysA_one _) ?_; rw [← HWA.out]))
              go_ret
              exact ⟨by rw [HE.out, HRN.out, if_neg (by simp)]; rfl, HBA.out⟩
            · have hbI : ((b : Int) == 0) = false := by rw [beq_eq_false_iff_ne]; omega
              go_wp2_with (first | (refine l_load rfl _ _ rfl _ HLD.out ?_) | (refine Rg.store_row_new rfl 22 _ _ rfl wr.heap.size rfl rfl 22 _ (bysA X) rfl HIX.out (by rw [bysA_size, HXL.out]; rfl) (bysA_one _) ?_; rw [← HWA.out]) | (refine wpList_load_row rfl 118 _ rfl (w.heap.size + 1) rfl 118 #[.int .i64 (a : Int), .int .i64 (b : Int)] (0, 0) _ HCA.out Tryd.underlying118 rfl HIC.out ?_))
              rw [← hxb]
              clear hxb
              have hrt := right16_any a b wa (by omega) (by omega)
              cases hr : Rfc.right a b with
              | true =>
                rw [hr] at hrt
                obtain ⟨hup, ha0⟩ := right_up hr hb0
                have HUP := Lib.hid hup
                have HR2 := Lib.hid hr
                refine hrt.mono ?_
                rintro e w4 ⟨rfl, hb4⟩
                have HX4 := Lib.hid (Rp.row_le hb4 HXA.out)
                have HC4 := Lib.hid (Rp.row_le hb4 HCA.out)
                have HS4 := Lib.hid (Rp.row_le hb4 HSA.out)
                have HR4 := Lib.hid (Rp.row_le hb4 HRA.out)
                have HB4 : Hid (Below w.heap.size w w4) := Lib.hid (HBA.out.trans (hb4.mono HBA.out.size))
                clear hb4 hr hrt hup c1
                go_wp2_with (first | (refine wpList_load_row rfl 22 _ rfl sb rfl 22 (bysA s) (0, 0) _ HS4.out Tryd.underlying22 rfl HIS.out ?_) | (refine wpList_load_row rfl 22 _ rfl xb rfl 22 (bysA X) (0, 0) _ HX4.out Tryd.underlying22 rfl HIX.out ?_))
                refine (node_any X s w4 (HS.out.below HB4.out) HXL.out HSL.out).mono ?_
                rintro e w5 ⟨rfl, hb5⟩
                obtain ⟨N, hN⟩ : ∃ N, N = nodeS X s := ⟨_, rfl⟩
                have HNL : Hid (N.length = 32) := Lib.hid (by rw [hN]; exact nodeS_length _ _)
                have HNE := Lib.hid hN
                have HIN := Lib.hid (info_of HNL.out)
                rw [← hN]
                have HS5 := Lib.hid (Rp.row_le hb5 HS4.out)
                obtain ⟨w6, hw6⟩ : ∃ w6, w6 = w5.setRow sb (bysA N) := ⟨_, rfl⟩
                have HW6 := Lib.hid hw6
                have HSB6 : Hid (w6.heap[sb]? = some (.cells (bysA N) 22 (0, 0))) := Lib.hid (by rw [hw6]; exact setRow_heap _ _ _ _ _ _ HS5.out)
                have HCB6 : Hid (w6.heap[w.heap.size + 1]? = some (.cells #[.int .i64 (a : Int), .int .i64 (b : Int)] 118 (0, 0))) := Lib.hid (by rw [hw6, setRow_other _ _ (by omega)]; exact Rp.row_le hb5 HC4.out)
                have HRB6 : Hid (w6.heap[w.heap.size]? = some (.cells (bysA root) 22 (0, 0))) := Lib.hid (by rw [hw6, setRow_other _ _ (by omega)]; exact Rp.row_le hb5 HR4.out)
                have HB6 : Hid (Below w.heap.size w w6) := Lib.hid (by rw [hw6]; exact Rg.below_setRow (HB4.out.trans (hb5.mono HB4.out.size)) (by omega) _)
                clear hN hw6 hb5
                go_wp2_with (first | (refine Rg.store_row rfl 22 _ _ rfl sb rfl 22 (bysA s) (bysA N) rfl HS5.out HIN.out (by rw [bysA_size, bysA_size, HNL.out, HSL.out]) (bysA_one _) ?_; rw [← HW6.out]) | (refine wpList_load_row rfl 118 _ rfl (w.heap.size + 1) rfl 118 #[.int .i64 (a : Int), .int .i64 (b : Int)] (0, 0) _ HCB6.out Tryd.underlying118 rfl HIC.out ?_))
                refine (up16_any a b w6 (by omega) (by omega) HUP.out ha0).mono ?_
                rintro e w7 ⟨rfl, hb7⟩
                have HNX := Lib.hid (Rfc.next_lt a b hb0)
                have HNY := Lib.hid (Rfc.next_le a b hab)
                obtain ⟨a', ha'⟩ : ∃ a', a' = (Rfc.next a b).1 := ⟨_, rfl⟩
                obtain ⟨b', hb'⟩ : ∃ b', b' = (Rfc.next a b).2 := ⟨_, rfl⟩
                rw [← hb'] at HNX
                rw [← ha', ← hb'] at HNY ⊢
                have HRN : Hid (Rfc.runI nodeS iN m E P = Rfc.runI nodeS a' b' N (P.drop (k + 1))) := Lib.hid (by rw [HRUN.out, HDR.out, Rfc.runI, if_neg hb0, HR2.out, cond_true, ha', hb', HNE.out])
                have HSB7 := Lib.hid (Rp.row_le hb7 HSB6.out)
                have HCB7 := Lib.hid (Rp.row_le hb7 HCB6.out)
                have HRB7 := Lib.hid (Rp.row_le hb7 HRB6.out)
                have HB7 : Hid (Below w.heap.size w w7) := Lib.hid (HB6.out.trans (hb7.mono HB6.out.size))
                clear hb7
                obtain ⟨e0, e1, e2, e3⟩ := two_cells HCB7.out
                have HTC := Lib.hid (two_stored (a' := .int .i64 (a' : Int)) (b' := .int .i64 (b' : Int)) HCB7.out)
                clear ha' hb'
                go_wp2_with fail
                rw [HTC.out]
                exact ⟨⟨k + 1, a', b', N, by omega, by go_num, HNY.out, by have := HNX.out; omega, HNL, Lib.hid (setRow_heap _ _ _ _ _ _ HCB7.out), Lib.hid (by rw [setRow_other _ _ (by omega)]; exact HSB7.out), Lib.hid (by rw [setRow_other _ _ (by omega)]; exact HRB7.out), Lib.hid (Rg.below_setRow HB7.out (by omega) _), HRN⟩, by simp [intOf]; omega⟩
              | false =>
                rw [hr] at hrt
                have HR2 := Lib.hid hr
                refine hrt.mono ?_
                rintro e w4 ⟨rfl, hb4⟩
                have HX4 := Lib.hid (Rp.row_le hb4 HXA.out)
                have HC4 := Lib.hid (Rp.row_le hb4 HCA.out)
                have HS4 := Lib.hid (Rp.row_le hb4 HSA.out)
                have HR4 := Lib.hid (Rp.row_le hb4 HRA.out)
                have HB4 : Hid (Below w.heap.size w w4) := Lib.hid (HBA.out.trans (hb4.mono HBA.out.size))
                clear hb4 hr hrt c1
                go_wp2_with (first | (refine wpList_load_row rfl 22 _ rfl sb rfl 22 (bysA s) (0, 0) _ HS4.out Tryd.underlying22 rfl HIS.out ?_) | (refine wpList_load_row rfl 22 _ rfl xb rfl 22 (bysA X) (0, 0) _ HX4.out Tryd.underlying22 rfl HIX.out ?_))
                refine (node_any s X w4 (HS.out.below HB4.out) HSL.out HXL.out).mono ?_
                rintro e w5 ⟨rfl, hb5⟩
                obtain ⟨N, hN⟩ : ∃ N, N = nodeS s X := ⟨_, rfl⟩
                have HNL : Hid (N.length = 32) := Lib.hid (by rw [hN]; exact nodeS_length _ _)
                have HNE := Lib.hid hN
                have HIN := Lib.hid (info_of HNL.out)
                rw [← hN]
                have HS5 := Lib.hid (Rp.row_le hb5 HS4.out)
                obtain ⟨w6, hw6⟩ : ∃ w6, w6 = w5.setRow sb (bysA N) := ⟨_, rfl⟩
                have HW6 := Lib.hid hw6
                have HSB6 : Hid (w6.heap[sb]? = some (.cells (bysA N) 22 (0, 0))) := Lib.hid (by rw [hw6]; exact setRow_heap _ _ _ _ _ _ HS5.out)
                have HCB6 : Hid (w6.heap[w.heap.size + 1]? = some (.cells #[.int .i64 (a : Int), .int .i64 (b : Int)] 118 (0, 0))) := Lib.hid (by rw [hw6, setRow_other _ _ (by omega)]; exact Rp.row_le hb5 HC4.out)
                have HRB6 : Hid (w6.heap[w.heap.size]? = some (.cells (bysA root) 22 (0, 0))) := Lib.hid (by rw [hw6, setRow_other _ _ (by omega)]; exact Rp.row_le hb5 HR4.out)
                have HB6 : Hid (Below w.heap.size w w6) := Lib.hid (by rw [hw6]; exact Rg.below_setRow (HB4.out.trans (hb5.mono HB4.out.size)) (by omega) _)
                obtain ⟨d0, d1, d2, d3⟩ := two_cells HCB6.out
                have HTC := Lib.hid (two_stored (a' := .int .i64 ((a : Int) / 2)) (b' := .int .i64 ((b : Int) / 2)) HCB6.out)
                have HRN : Hid (Rfc.runI nodeS iN m E P = Rfc.runI nodeS (a / 2) (b / 2) N (P.drop (k + 1))) := Lib.hid (by rw [HRUN.out, HDR.out, Rfc.runI, if_neg hb0, HR2.out, cond_false, HNE.out])
                clear hN hw6 hb5
                go_wp2_with (first | (refine Rg.store_row rfl 22 _ _ rfl sb rfl 22 (bysA s) (bysA N) rfl HS5.out HIN.out (by rw [bysA_size, bysA_size, HNL.out, HSL.out]) (bysA_one _) ?_; rw [← HW6.out]))
                rw [HTC.out]
                exact ⟨⟨k + 1, a / 2, b / 2, N, by omega, by go_num, by omega, by omega, HNL, Lib.hid (setRow_heap _ _ _ _ _ _ HCB6.out), Lib.hid (by rw [setRow_other _ _ (by omega)]; exact HSB6.out), Lib.hid (by rw [setRow_other _ _ (by omega)]; exact HRB6.out), Lib.hid (Rg.below_setRow HB6.out (by omega) _), HRN⟩, by simp [intOf]; omega⟩
          · obtain rfl : k = P.length := by omega
            have HDN : Hid (Rfc.runI nodeS iN m E P = if b = 0 then some s else none) := Lib.hid (by rw [HRUN.out, List.drop_length]; rfl)
            have c1 : wr.cell? ⟨w.heap.size + 1, 1, none⟩ = some (.int .i64 (b : Int)) := (cell_of_row _ _ _ _ _ _ HCB.out).trans rfl
            have HIS := Lib.hid (info_of HSL.out)
            have HIR := Lib.hid (info_of HR.out)
            by_cases hb0 : b = 0
            · have hbI : ((b : Int) != 0) = false := by rw [hb0]; rfl
              have hsl := HSL.out
              have hrl := HR.out
              cases heq : (s == root) with
              | true =>
                have HA : Hid (chkI l iN ((m : Int) + 1) P root = 0) := Lib.hid (by rw [HE.out, HDN.out, if_pos hb0, if_pos (by rw [eq_of_beq heq])])
                go_wp2_with (first | (refine unguard16 (by rfl) ?_; refine wpList_load_row rfl 22 _ rfl sb rfl 22 (bysA s) (0, 0) _ HSB.out Tryd.underlying22 rfl HIS.out ?_) | (refine unguard16 (by rfl) ?_; refine wpList_load_row rfl 22 _ rfl w.heap.size rfl 22 (bysA root) (0, 0) _ HRB.out Tryd.underlying22 rfl HIR.out ?_))
                go_ret
                exact ⟨by rw [HA.out]; rfl, HB.out⟩
              | false =>
                have HA : Hid (chkI l iN ((m : Int) + 1) P root = 17) := Lib.hid (by rw [HE.out, HDN.out, if_pos hb0, if_neg (fun h => by rw [Option.some.inj h] at heq; simp at heq)])
                go_wp2_with (first | (refine unguard16 (by rfl) ?_; refine wpList_load_row rfl 22 _ rfl sb rfl 22 (bysA s) (0, 0) _ HSB.out Tryd.underlying22 rfl HIS.out ?_) | (refine unguard16 (by rfl) ?_; refine wpList_load_row rfl 22 _ rfl w.heap.size rfl 22 (bysA root) (0, 0) _ HRB.out Tryd.underlying22 rfl HIR.out ?_))
                go_ret
                exact ⟨by rw [HA.out]; rfl, HB.out⟩
            · have hbI : ((b : Int) != 0) = true := by rw [bne_iff_ne]; omega
              have HA : Hid (chkI l iN ((m : Int) + 1) P root = 17) := Lib.hid (by rw [HE.out, HDN.out, if_neg hb0, if_neg (by simp)])
              go_wp2_with fail
              go_ret
              exact ⟨by rw [HA.out]; rfl, HB.out⟩
end Ref
end Go.Proofs.YtkembhonfehlbaaDoor

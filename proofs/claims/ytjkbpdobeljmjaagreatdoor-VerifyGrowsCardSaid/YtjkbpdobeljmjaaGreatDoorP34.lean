/- A part of the proof. Plain; no condition. -/
import Derived.Test.YtjkbpdobeljmjaaGreatDoorP33
import Derived.Test.YtjkbpdobeljmjaaGreatDoorP11
/- The walk of rfclog.CheckConsistency. -/
namespace Go.Proofs.YtjkbpdobeljmjaaGreatDoor
open Go.RowKit Bits Mem Sha
namespace Ref
def runS (f a b : Nat) : List (List UInt8) → Option (List UInt8 × List UInt8)
  | [] => none
  | x :: q => Rfc.runC nodeS (Rfc.ones f a b).1 (Rfc.ones f a b).2 (x, x) q
def chkC (m n : Int) (P : List (List UInt8)) (old root : List UInt8) : Int :=
  if m < 0 ∨ n < m then 1 else if m = 0 ∨ m = n then shortA m n P old root
  else if runS m.toNat (m.toNat - 1) (n.toNat - 1) (Rfc.start (Rfc.pow2 m.toNat) old P) = some (old, root) then 0 else 17
set_option maxRecDepth 100000 in
set_option maxHeartbeats 16000000 in
theorem checkC_any (m n : Int) (q : Option Addr) (c : Nat) (P : List (List UInt8)) (old root : List UInt8) (w : World) (hS : Sha.Tabs w) (hp : RdL w (.slice q P.length c) P) (hP : P.length ≤ 1000) (ho : old.length = 32) (hr : root.length = 32) (hn0 : n ≤ 9223372036854775807) :
    Calls Tryz.prog 9 #[.int .i64 m, .int .i64 n, .slice q P.length c, .agg (bysA old), .agg (bysA root)] w fun e w' => e = .returned (.int .i64 (chkC m n P old root)) ∧ Below w.heap.size w w' := by
  obtain ⟨i0, hi, hz0, hz1, hz2⟩ := parts3 infoA32
  obtain ⟨w1, hw1⟩ : ∃ w1, w1 = (w.alloc (.cells (bysA old) 22)).alloc (.cells (bysA root) 22) := ⟨_, rfl⟩
  have hb1 : Below w.heap.size w w1 := by rw [hw1]; exact ((Below.refl _ _).alloc (Nat.le_refl _) _).alloc (by simp) _
  have hro : w1.heap[w.heap.size]? = some (.cells (bysA old) 22 (0, 0)) := by rw [hw1]; exact (Rg.heap_alloc_past _ _ _ (by simp)).trans (Rg.heap_alloc_at w _ _ rfl)
  have hrr : w1.heap[w.heap.size + 1]? = some (.cells (bysA root) 22 (0, 0)) := by rw [hw1]; exact Rg.heap_alloc_at _ _ _ (by simp)
  have HS := Lib.hid hS
  have HP := Lib.hid hp
  have HO := Lib.hid ho
  have HR := Lib.hid hr
  have HW1 := Lib.hid hw1
  have HB1 := Lib.hid hb1
  have HRO := Lib.hid hro
  have HRR := Lib.hid hrr
  have HIO := Lib.hid (info_of ho)
  have HIR := Lib.hid (info_of hr)
  clear hS hp hw1 hb1 hro hrr ho hr
  by_cases h1 : m < 0
  ·
    as_aux_lemma =>
      have HE : Hid (chkC m n P old root = 1) := Lib.hid (by unfold chkC; rw [if_pos (by omega)])
      clear hn0
      go_enter Tryz.func9, Tryz.ntmps9
      go_wp2_with fail
      rw [← HW1.out]
      go_ret
      exact ⟨by rw [HE.out]; rfl, HB1.out⟩
  · by_cases h2 : n < m
    ·
      as_aux_lemma =>
        have HE : Hid (chkC m n P old root = 1) := Lib.hid (by unfold chkC; rw [if_pos (by omega)])
        clear hn0
        go_enter Tryz.func9, Tryz.ntmps9
        go_wp2_with fail
        rw [← HW1.out]
        go_ret
        exact ⟨by rw [HE.out]; rfl, HB1.out⟩
    · by_cases h3 : m = 0
      ·
        as_aux_lemma =>
          subst h3
          have HE : Hid (chkC 0 n P old root = shortA 0 n P old root) := Lib.hid (by unfold chkC; rw [if_neg (by omega), if_pos (by omega)])
          clear hn0
          go_enter Tryz.func9, Tryz.ntmps9
          go_wp2_with (first | (refine wpList_load_row rfl 22 _ rfl (w.heap.size + 1) rfl 22 (bysA root) (0, 0) _ (by rw [← HW1.out]; exact HRR.out) Tryz.underlying22 rfl HIR.out ?_) | (refine wpList_load_row rfl 22 _ rfl w.heap.size rfl 22 (bysA old) (0, 0) _ (by rw [← HW1.out]; exact HRO.out) Tryz.underlying22 rfl HIO.out ?_))
          rw [← HW1.out]
          refine (short_any _ _ q c P old root w1 (HS.out.below HB1.out) HO.out HR.out).mono ?_
          rintro e w2 ⟨rfl, hb2⟩
          have HB2 := Lib.hid (HB1.out.trans (hb2.mono HB1.out.size))
          go_wp2_with fail
          go_ret
          exact ⟨by rw [HE.out]; rfl, HB2.out⟩
      · have h3I : (m == 0) = false := by rw [beq_eq_false_iff_ne]; exact h3
        by_cases h4 : m = n
        ·
          as_aux_lemma =>
            subst h4
            have HE : Hid (chkC m m P old root = shortA m m P old root) := Lib.hid (by unfold chkC; rw [if_neg (by omega), if_pos (by omega)])
            clear hn0
            go_enter Tryz.func9, Tryz.ntmps9
            go_wp2_with (first | (refine wpList_load_row rfl 22 _ rfl (w.heap.size + 1) rfl 22 (bysA root) (0, 0) _ (by rw [← HW1.out]; exact HRR.out) Tryz.underlying22 rfl HIR.out ?_) | (refine wpList_load_row rfl 22 _ rfl w.heap.size rfl 22 (bysA old) (0, 0) _ (by rw [← HW1.out]; exact HRO.out) Tryz.underlying22 rfl HIO.out ?_))
            rw [← HW1.out]
            refine (short_any _ _ q c P old root w1 (HS.out.below HB1.out) HO.out HR.out).mono ?_
            rintro e w2 ⟨rfl, hb2⟩
            have HB2 := Lib.hid (HB1.out.trans (hb2.mono HB1.out.size))
            go_wp2_with fail
            go_ret
            exact ⟨by rw [HE.out]; rfl, HB2.out⟩
        · have h4I : (m == n) = false := by rw [beq_eq_false_iff_ne]; exact h4
          obtain ⟨a0, rfl⟩ : ∃ a0 : Nat, m = (a0 : Int) + 1 := ⟨(m - 1).toNat, by omega⟩
          obtain ⟨b0, rfl⟩ : ∃ b0 : Nat, n = (b0 : Int) + 1 := ⟨(n - 1).toNat, by omega⟩
          have hab0 : a0 < b0 := by omega
          have hb0b : b0 < 9223372036854775807 := by omega
          have hE : chkC ((a0 : Int) + 1) ((b0 : Int) + 1) P old root = if runS (a0 + 1) a0 b0 (Rfc.start (Rfc.pow2 (a0 + 1)) old P) = some (old, root) then 0 else 17 := by
            unfold chkC
            rw [if_neg (by omega), if_neg (by omega)]
            rw [show ((a0 : Int) + 1).toNat = a0 + 1 by omega, show ((b0 : Int) + 1).toNat - 1 = b0 by omega]
            rfl
          clear hn0 h3 h4
          go_enter Tryz.func9, Tryz.ntmps9
          go_wp2_with fail
          rw [← HW1.out]
          have hpw : Calls Tryz.prog 23 #[.int .i64 ((a0 : Int) + 1)] w1 fun e w' => e = .returned (.bool (Rfc.pow2 (a0 + 1))) ∧ w' = w1 := power_any (a0 + 1) w1 (by omega) (by omega)
          clear h1 h2
          cases hpq : Rfc.pow2 (a0 + 1) with
          | false =>
            rw [hpq] at hpw
            obtain ⟨P2, hP2⟩ : ∃ P2, P2 = P := ⟨_, rfl⟩
            have HE : Hid (chkC ((a0 : Int) + 1) ((b0 : Int) + 1) P old root = if runS (a0 + 1) a0 b0 P2 = some (old, root) then 0 else 17) := Lib.hid (by rw [hE, hpq, hP2]; rfl)
            have HRD2 : Hid (RdL w1 (.slice q P2.length c) P2) := Lib.hid (by rw [hP2]; exact HP.out.below HB1.out)
            have hP3 : P2.length ≤ 1001 := by rw [hP2]; omega
            have hPl : P.length = P2.length := by rw [hP2]
            clear hpq hE
            refine hpw.mono ?_
            clear hpw
            rintro e wx ⟨rfl, rfl⟩
            rw [hPl]
            have HOX := HRO
            have HRX := HRR
            have HBX := HB1
            obtain ⟨q2, hq2⟩ : ∃ q2, q2 = q := ⟨_, rfl⟩
            obtain ⟨c2, hc2⟩ : ∃ c2, c2 = c := ⟨_, rfl⟩
            rw [← hq2, ← hc2] at HRD2 ⊢
            clear hq2 hc2 hPl hP2 hP HP
            by_cases hP0 : P2 = []
            · have hl0 : ((P2.length : Int) == 0) = true := by rw [hP0]; rfl
              have HA : Hid (chkC ((a0 : Int) + 1) ((b0 : Int) + 1) P old root = 17) := Lib.hid (by rw [HE.out, hP0]; rfl)
              clear hP0
              go_wp2_with fail
              go_ret
              exact ⟨by rw [HA.out]; rfl, HBX.out⟩
            · obtain ⟨X, T, hXT⟩ : ∃ X T, P2 = X :: T := by
                cases P2 with
                | nil => exact absurd rfl hP0
                | cons X T => exact ⟨X, T, rfl⟩
              have HXT := Lib.hid hXT
              have hT1 : P2.length - 1 = T.length := by rw [hXT]; rfl
              have hlp : 0 < P2.length := by rw [hXT]; simp
              have hl0 : ((P2.length : Int) == 0) = false := by rw [beq_eq_false_iff_ne]; omega
              have hX0 : P2.getD 0 [] = X := by rw [hXT]; rfl
              have HXL : Hid (X.length = 32) := Lib.hid (HRD2.out.1 X (by rw [hXT]; simp))
              obtain ⟨bp, op, hqe, hbp, hnc2, hcm2, hload⟩ := HRD2.out.load hlp
              subst hqe
              have hDR := fun (o' : Nat) (h : 1 < P2.length → o' = op + 1 * 32) => (show RdL wx (.slice (some ⟨bp, o', none⟩) T.length (c2 - 1)) T from by
                rcases T with _ | ⟨y, T⟩
                · exact ⟨(by intro x h; cases h), rfl, .inr ⟨bp, o', c2 - 1, rfl, hbp, Nat.zero_le _, by omega, fun j u hu => by cases hu⟩⟩
                · have := HRD2.out.drop (k := 1) hlp
                  rw [hT1, hXT] at this
                  rw [h (by rw [hXT]; simp)]
                  exact this)
              have HDR := Lib.hid hDR
              rw [hX0] at hload
              have hload' : ∀ x, Below wx.heap.size wx x → (Instr.loadAt 22 (.pointer (some ⟨bp, op, none⟩))).run Tryz.prog x = .ok (.agg (bysA X)) x := fun x hx => by have := hload x hx; simpa using this
              have HLD := Lib.hid hload'
              have hT63 : T.length ≤ 1001 := by omega
              clear hload hload' hDR hXT hX0 hP0
              have hpos : (0 : Int) < (P2.length : Int) := by omega
              obtain ⟨wc, hwc⟩ : ∃ wc, wc = wx.alloc (.cells #[.int .i64 (a0 : Int), .int .i64 (b0 : Int)] 95) := ⟨_, rfl⟩
              have HBC : Hid (Below wx.heap.size wx wc) := Lib.hid (by rw [hwc]; exact (Below.refl _ _).alloc (Nat.le_refl _) _)
              have HCC : Hid (wc.heap[wx.heap.size]? = some (.cells #[.int .i64 (a0 : Int), .int .i64 (b0 : Int)] 95 (0, 0))) := Lib.hid (by rw [hwc]; exact Rg.heap_alloc_at _ _ _ rfl)
              have HWC := Lib.hid hwc
              clear hwc
              go_wp2_with fail
              rw [← HWC.out]
              go_loopw [] (fun wr => ∃ (f a b : Nat), a ≤ f ∧ a ≤ b ∧ b < 9223372036854775807 ∧ Hid (Rfc.ones f a b = Rfc.ones (a0 + 1) a0 b0) ∧ Hid (wr.heap[wx.heap.size]? = some (.cells #[.int .i64 (a : Int), .int .i64 (b : Int)] 95 (0, 0))) ∧ Hid (Below wx.heap.size wx wr)) (fun wr => (intOf ((wr.cell? ⟨wx.heap.size, 0, none⟩).getD undef)).toNat)
              case atStart => exact ⟨a0 + 1, a0, b0, by omega, by omega, by omega, Lib.hid rfl, HCC, HBC⟩
              case round =>
                obtain ⟨f, a, b, haf, hab, hbb, HON, HCB, HB⟩ := hrel
                have hx1 := and_one a (by omega)
                obtain ⟨e0, e1, e2, e3⟩ := two_cells HCB.out
                by_cases ho : a % 2 = 1
                · have hx2 : bits .and .i64 (a : Int) (1 : Int) = 1 := by rw [hx1, ho]; rfl
                  have HTC := Lib.hid (two_stored (a' := .int .i64 ((a : Int) / 2)) (b' := .int .i64 ((b : Int) / 2)) HCB.out)
                  have HE0 := Lib.hid e0
                  clear hx1
                  go_wp2_with fail
                  rw [HTC.out]
                  obtain ⟨f, rfl⟩ : ∃ g, f = g + 1 := ⟨f - 1, by omega⟩
                  have hrow := setRow_heap wr wx.heap.size #[.int .i64 (a : Int), .int .i64 (b : Int)] #[.int .i64 ((a : Int) / 2), .int .i64 ((b : Int) / 2)] 95 (0, 0) HCB.out
                  refine ⟨⟨f, a / 2, b / 2, by omega, by omega, by omega, Lib.hid (by rw [← HON.out, Rfc.ones, if_pos ho]), Lib.hid hrow, Lib.hid (Rg.below_setRow HB.out (Nat.le_refl _) _)⟩, ?_⟩
                  have h1 : (wr.setRow wx.heap.size #[.int .i64 ((a : Int) / 2), .int .i64 ((b : Int) / 2)]).cell? ⟨wx.heap.size, 0, none⟩ = some (.int .i64 ((a : Int) / 2)) := (cell_of_row _ _ _ _ _ _ hrow).trans rfl
                  rw [h1, HE0.out]
                  show ((a : Int) / 2).toNat < (a : Int).toNat
                  omega
                · have hx2 : bits .and .i64 (a : Int) (1 : Int) = 0 := by rw [hx1]; omega
                  have HRS : Hid (runS (a0 + 1) a0 b0 P2 = Rfc.runC nodeS a b (X, X) T) := Lib.hid (by
                    rw [HXT.out]
                    unfold runS
                    rw [← HON.out]
                    cases f with
                    | zero => rfl
                    | succ f => rw [Rfc.ones, if_neg ho])
                  clear hx1 e2 e3
                  clear HON
                  go_wp2_with fail
                  refine Rc.region (wr.heap.size) 9 [Rc.F 6 (fun p => .pointer (some ⟨p.c, 0, none⟩)) (fun p F y => (y.heap[p.c]? = some (.cells (bysA zeros32) 22 (0, 0)) ∧ wr.heap.size ≤ p.c) ∧ F p.c), Rc.F 7 (fun p => .pointer (some ⟨p.c, 0, none⟩)) (fun p F y => (y.heap[p.c]? = some (.cells (bysA zeros32) 22 (0, 0)) ∧ wr.heap.size ≤ p.c) ∧ F p.c), ⟨8, [6], [6], some (fun _ _ => undef), fun p _ F y => (y.heap[(p 6).c]? = some (.cells (bysA X) 22 (0, 0)) ∧ wr.heap.size ≤ (p 6).c) ∧ F (p 6).c⟩] [7, 8] (by kernel_rfl) (Nat.le_refl _) (by kernel_rfl) ?_; intro p; simp only [List.take, List.drop]
                  iterate 2 (refine Rc.rK rfl rfl ?_; intro K hK; apply Exists.intro; refine ⟨?_, ?_⟩; (focus (intro x hx;  go_simp; (first | (fail) | ((try go_bits); (try go_simp); (try rfl))))); go_simp; refine hK _ ?_; clear hK K)
                  refine Rc.r_load rfl rfl _ _ rfl (.agg (bysA X)) (fun x hx => HLD.out x (HB.out.trans ((Rc.undrew hx).mono HB.out.size))) ?_; intro K hK; go_simp; refine hK _ ?_; clear hK K
                  iterate 2 (refine Rc.rK rfl rfl ?_; intro K hK; apply Exists.intro; refine ⟨?_, ?_⟩; (focus (intro x hx;  go_simp; (first | (fail) | ((try go_bits); (try go_simp); (try rfl))))); go_simp; refine hK _ ?_; clear hK K)
                  refine Rc.r_load rfl rfl _ _ rfl (.agg (bysA X)) (fun x hx => HLD.out x (HB.out.trans ((Rc.undrew hx).mono HB.out.size))) ?_; intro K hK; go_simp; refine hK _ ?_; clear hK K
                  refine Rc.fK rfl rfl rfl rfl ?_ ?_
                  · intro x Fs hx hle hg K hK
                    go_wp2_with fail
                    rw [z32r]
                    exact hK ⟨none, x.heap.size, undef⟩ _ ((Below.refl _ _).alloc (Nat.le_refl _) _) fun F y hF hy => ⟨⟨(hy.block _ (by simp) (.inr (hF _ (Nat.le_refl _) (by simp)))).trans (Rg.heap_alloc_at _ _ _ rfl), hle⟩, hF _ (Nat.le_refl _) (by simp)⟩
                  intro K hK; go_simp; refine hK _ ?_; clear hK K
                  refine Rc.fK rfl rfl rfl rfl ?_ ?_
                  · intro x Fs hx hle hg K hK
                    go_wp2_with fail
                    rw [z32r]
                    exact hK ⟨none, x.heap.size, undef⟩ _ ((Below.refl _ _).alloc (Nat.le_refl _) _) fun F y hF hy => ⟨⟨(hy.block _ (by simp) (.inr (hF _ (Nat.le_refl _) (by simp)))).trans (Rg.heap_alloc_at _ _ _ rfl), hle⟩, hF _ (Nat.le_refl _) (by simp)⟩
                  intro K hK; go_simp; refine hK _ ?_; clear hK K
                  refine Rc.cK rfl rfl rfl ?_ ?_
                  · intro x Fs hx hle hg K hK
                    have HG : Hid (x.heap[(p 6).c]? = some (.cells (bysA zeros32) 22 (0, 0)) ∧ wr.heap.size ≤ (p 6).c) := Lib.hid hg.1.1
                    have HF : Hid (Fs 6 (p 6).c) := Lib.hid hg.1.2
                    clear hg
                    have HIX := Lib.hid (info_of HXL.out)
                    go_wp2_with (refine Rg.store_row rfl 22 _ _ rfl (p 6).c rfl 22 (bysA zeros32) (bysA X) rfl HG.out.1 HIX.out (by rw [bysA_size, bysA_size, HXL.out]; rfl) (bysA_one _) ?_)
                    have hu : Rc.used Fs [6] (p 6).c := ⟨6, by simp, HF.out⟩
                    exact hK Rc.dflt _ ⟨rfl, rfl, rfl, by rw [setRow_size]; exact Nat.le_refl _, fun k _ hn => setRow_other _ _ (fun e => hn (e ▸ hu))⟩ fun y hy => ⟨⟨(hy.block _ (by rw [setRow_size]; exact lt_of_heap HG.out.1) (.inr (.inl hu))).trans (setRow_heap _ _ _ _ _ _ HG.out.1), HG.out.2⟩, .inl hu⟩
                  intro K hK; go_simp; refine hK _ ?_; clear hK K
                  refine Rc.done2 fun x Fs hx hle hdis hg => ?_
                  have hne : (p 6).c ≠ (p 7).c := fun e => hdis 7 (by simp) 8 (by simp) (by decide) (p 7).c hg.1.2 (e ▸ hg.2.1.2)
                  obtain ⟨ga, hga⟩ : ∃ ga, ga = (p 6).c := ⟨_, rfl⟩
                  obtain ⟨gb, hgb⟩ : ∃ gb, gb = (p 7).c := ⟨_, rfl⟩
                  have HGA : Hid (x.heap[ga]? = some (.cells (bysA X) 22 (0, 0))) := Lib.hid (by rw [hga]; exact hg.2.1.1.1)
                  have HGB : Hid (x.heap[gb]? = some (.cells (bysA zeros32) 22 (0, 0))) := Lib.hid (by rw [hgb]; exact hg.1.1.1)
                  have hgar : wr.heap.size ≤ ga := by rw [hga]; exact hg.2.1.1.2
                  have hgbr : wr.heap.size ≤ gb := by rw [hgb]; exact hg.1.1.2
                  have hcl := lt_of_heap HCB.out
                  have HCX : Hid (x.heap[wx.heap.size]? = some (.cells #[.int .i64 (a : Int), .int .i64 (b : Int)] 95 (0, 0))) := Lib.hid (Rp.row_le (Rc.undrew hx) HCB.out)
                  have HBW : Hid (Below wx.heap.size wx x) := Lib.hid (HB.out.trans ((Rc.undrew hx).mono HB.out.size))
                  rw [← hga, ← hgb] at hne ⊢
                  have HIX := Lib.hid (info_of HXL.out)
                  have HNE := Lib.hid (And.intro hne (And.intro (Nat.lt_of_lt_of_le hcl hgar) (Nat.lt_of_lt_of_le hcl hgbr)))
                  obtain ⟨wg, hwg⟩ : ∃ wg, wg = x.setRow gb (bysA X) := ⟨_, rfl⟩
                  have HWG := Lib.hid hwg
                  have HGA1 : Hid (wg.heap[ga]? = some (.cells (bysA X) 22 (0, 0))) := Lib.hid (by rw [hwg, setRow_other _ _ (fun e => hne e.symm)]; exact HGA.out)
                  have HGB1 : Hid (wg.heap[gb]? = some (.cells (bysA X) 22 (0, 0))) := Lib.hid (by rw [hwg]; exact setRow_heap _ _ _ _ _ _ HGB.out)
                  have HCG1 : Hid (wg.heap[wx.heap.size]? = some (.cells #[.int .i64 (a : Int), .int .i64 (b : Int)] 95 (0, 0))) := Lib.hid (by rw [hwg, setRow_other _ _ (by omega)]; exact HCX.out)
                  have HBG1 : Hid (Below wx.heap.size wx wg) := Lib.hid (by rw [hwg]; exact Rg.below_setRow HBW.out (by omega) _)
                  clear hga hgb hg hdis hx hle hne hgar hgbr hcl e0 e1 hwg
                  go_wp2_with (refine Rg.store_row rfl 22 _ _ rfl gb rfl 22 (bysA zeros32) (bysA X) rfl HGB.out HIX.out (by rw [bysA_size, bysA_size, HXL.out]; rfl) (bysA_one _) ?_; rw [← HWG.out])
                  refine NoPanic.normal ?_
                  go_wp2_with (refine l_cutlo2 rfl 32 _ _ rfl 22 i0 Tryz.underlying32 hi bp op P2.length c2 1 32 T.length hz1 rfl rfl hlp hnc2 hT1 ?_; go_must (intro o3 ho3))
                  have HRT0 := Lib.hid (HDR.out o3 ho3)
                  have HRT := Lib.hid ((HDR.out o3 ho3).below HBG1.out)
                  clear ho3
                  obtain ⟨c3, hc3⟩ : ∃ c3, c3 = c2 - 1 := ⟨_, rfl⟩
                  rw [← hc3] at HRT HRT0 ⊢
                  clear hc3 hnc2 hcm2 HDR HWG HGA HGB HCX HBW
                  go_loopw [72] (fun kv wr => ∃ (k a b : Nat) (u v : List UInt8), k ≤ T.length ∧ kv = .int .i64 k ∧ a ≤ b ∧ b < 9223372036854775807 ∧ Hid (u.length = 32) ∧ Hid (v.length = 32) ∧ Hid (wr.heap[wx.heap.size]? = some (.cells #[.int .i64 (a : Int), .int .i64 (b : Int)] 95 (0, 0))) ∧
                    Hid (wr.heap[ga]? = some (.cells (bysA u) 22 (0, 0))) ∧ Hid (wr.heap[gb]? = some (.cells (bysA v) 22 (0, 0))) ∧ Hid (Below wx.heap.size wx wr) ∧ Hid (RdL wr (.slice (some ⟨bp, o3, none⟩) T.length c3) T) ∧ Hid (runS (a0 + 1) a0 b0 P2 = Rfc.runC nodeS a b (u, v) (T.drop k))) (fun kv _ => T.length - (intOf kv).toNat)
                  case atStart => exact ⟨0, a, b, X, X, Nat.zero_le _, rfl, hab, hbb, HXL, HXL, HCG1, HGA1, HGB1, HBG1, HRT, Lib.hid (by rw [List.drop_zero]; exact HRS.out)⟩
                  case round =>
                    obtain ⟨k, a, b, u, v, hk, rfl, hab, hbb, HUL, HVL, HCB, HUB, HVB, HB, HRT, HRUN⟩ := hrel
                    clear HRS HCG1 HGA1 HGB1 HBG1 HCC HBC
                    have HIU := Lib.hid (info_of HUL.out)
                    have HIV := Lib.hid (info_of HVL.out)
                    have HIC := Lib.hid (infoCl a b)
                    have HBO : Hid (Below w.heap.size w wr) := Lib.hid (HBX.out.trans (HB.out.mono HBX.out.size))
                    by_cases hlt : k < T.length
                    · have hltI : (k : Int) < T.length := by omega
                      obtain ⟨bt, ot, hte, hbt, hct1, hct2, hload⟩ := HRT.out.load hlt
                      obtain ⟨rfl, rfl⟩ : bp = bt ∧ o3 = ot := by cases hte; exact ⟨rfl, rfl⟩
                      obtain ⟨Y, hY⟩ : ∃ Y, Y = T.getD k [] := ⟨_, rfl⟩
                      have HYL : Hid (Y.length = 32) := Lib.hid (by rw [hY]; exact HRT.out.1.getD hlt)
                      have HDK : Hid (T.drop k = Y :: T.drop (k + 1)) := Lib.hid (by rw [hY, List.drop_eq_getElem_cons hlt]; simp [List.getD, hlt])
                      rw [← hY] at hload
                      have HLY := Lib.hid (hload wr (Below.refl _ _))
                      have HIY := Lib.hid (info_of HYL.out)
                      obtain ⟨wa, hwa⟩ : ∃ wa, wa = wr.alloc (.cells (bysA Y) 22) := ⟨_, rfl⟩
                      have hba : Below wr.heap.size wr wa := by rw [hwa]; exact (Below.refl _ _).alloc (Nat.le_refl _) _
                      have HYA : Hid (wa.heap[wr.heap.size]? = some (.cells (bysA Y) 22 (0, 0))) := Lib.hid (by rw [hwa]; exact Rg.heap_alloc_at _ _ _ rfl)
                      have HCA := Lib.hid (Rp.row_le hba HCB.out)
                      have HUA := Lib.hid (Rp.row_le hba HUB.out)
                      have HVA := Lib.hid (Rp.row_le hba HVB.out)
                      have HBA : Hid (Below wx.heap.size wx wa) := Lib.hid (HB.out.trans (hba.mono HB.out.size))
                      have HTA := Lib.hid (HRT.out.below hba)
                      have c1 : wa.cell? ⟨wx.heap.size, 1, none⟩ = some (.int .i64 (b : Int)) := (cell_of_row _ _ _ _ _ _ HCA.out).trans rfl
                      have HWA := Lib.hid hwa
                      obtain ⟨yb, hyb⟩ : ∃ yb, yb = wr.heap.size := ⟨_, rfl⟩
                      rw [← hyb] at HYA
                      clear hload hY hwa hba hte hct1 hct2 hbt
                      by_cases hb0 : b = 0
                      · have hbI : ((b : Int) == 0) = true := by rw [hb0]; rfl
                        have HA : Hid (chkC ((a0 : Int) + 1) ((b0 : Int) + 1) P old root = 17) := Lib.hid (by rw [HE.out, HRUN.out, HDK.out, Rfc.runC, if_pos hb0]; rfl)
                        have HBW : Hid (Below w.heap.size w wa) := Lib.hid (HBX.out.trans (HBA.out.mono HBX.out.size))
                        clear hb0
                        go_wp2_with (first | (refine l_load rfl _ _ rfl _ HLY.out ?_) | (refine Rg.store_row_new rfl 22 _ _ rfl wr.heap.size rfl rfl 22 _ (bysA Y) rfl HIY.out (by rw [bysA_size, HYL.out]; rfl) (bysA_one _) ?_; rw [← HWA.out]))
                        go_ret
                        exact ⟨by rw [HA.out]; rfl, HBW.out⟩
                      · have hbI : ((b : Int) == 0) = false := by rw [beq_eq_false_iff_ne]; omega
                        have HB0 := Lib.hid hb0
                        clear hb0
                        go_wp2_with (first | (refine l_load rfl _ _ rfl _ HLY.out ?_) | (refine Rg.store_row_new rfl 22 _ _ rfl wr.heap.size rfl rfl 22 _ (bysA Y) rfl HIY.out (by rw [bysA_size, HYL.out]; rfl) (bysA_one _) ?_; rw [← HWA.out]) | (refine wpList_load_row rfl 95 _ rfl wx.heap.size rfl 95 #[.int .i64 (a : Int), .int .i64 (b : Int)] (0, 0) _ HCA.out Tryz.underlying95 rfl HIC.out ?_))
                        rw [← hyb]
                        clear hyb
                        have hrt := right16_any a b wa (by omega) (by omega)
                        cases hr : Rfc.right a b with
                        | true =>
                          rw [hr] at hrt
                          have HUP := Lib.hid (right_up hr HB0.out)
                          have HR2 := Lib.hid hr
                          refine hrt.mono ?_
                          rintro e w4 ⟨rfl, hb4⟩
                          have HY4 := Lib.hid (Rp.row_le hb4 HYA.out)
                          have HC4 := Lib.hid (Rp.row_le hb4 HCA.out)
                          have HU4 := Lib.hid (Rp.row_le hb4 HUA.out)
                          have HV4 := Lib.hid (Rp.row_le hb4 HVA.out)
                          have HT4 := Lib.hid (HTA.out.below hb4)
                          have HB4 : Hid (Below wx.heap.size wx w4) := Lib.hid (HBA.out.trans (hb4.mono HBA.out.size))
                          have HO4 : Hid (Below w.heap.size w w4) := Lib.hid (HBX.out.trans (HB4.out.mono HBX.out.size))
                          obtain ⟨M, hM⟩ : ∃ M, M = nodeS Y u := ⟨_, rfl⟩
                          obtain ⟨N, hN⟩ : ∃ N, N = nodeS Y v := ⟨_, rfl⟩
                          have HML : Hid (M.length = 32) := Lib.hid (by rw [hM]; exact nodeS_length _ _)
                          have HNL : Hid (N.length = 32) := Lib.hid (by rw [hN]; exact nodeS_length _ _)
                          have HME := Lib.hid hM
                          have HNN := Lib.hid hN
                          have HIM := Lib.hid (info_of HML.out)
                          have HIN := Lib.hid (info_of HNL.out)
                          clear hb4 hr hrt c1 hM hN
                          go_wp2_with fail
                          refine Rc.region (w4.heap.size) 6 [Rc.F 2 (fun _ => .agg (bysA M)) (fun _ _ _ => True), Rc.F 5 (fun _ => .agg (bysA N)) (fun _ _ _ => True)] [] (by kernel_rfl) (Nat.le_refl _) (by kernel_rfl) ?_; intro p; simp only [List.take, List.drop]
                          refine Rc.r_load rfl rfl _ _ rfl (.agg (bysA Y)) (fun x hx => load_whole (Rp.row_le (Rc.undrew hx) HY4.out) HYL.out) ?_; intro K hK; go_simp; refine hK _ ?_; clear hK K
                          refine Rc.r_load rfl rfl _ _ rfl (.agg (bysA u)) (fun x hx => load_whole (Rp.row_le (Rc.undrew hx) HU4.out) HUL.out) ?_; intro K hK; go_simp; refine hK _ ?_; clear hK K
                          refine Rc.fK rfl rfl rfl rfl ?_ ?_
                          · intro x Fs hx hle hg K hK
                            go_wp2_with fail
                            refine (node_any Y u x (HS.out.below (HO4.out.trans ((Rc.undrew hx).mono HO4.out.size))) HYL.out HUL.out).mono ?_
                            rintro e x' ⟨rfl, hb⟩
                            rw [← HME.out]
                            go_wp2_with fail
                            exact hK Rc.dflt x' hb (fun _ _ _ _ => trivial)
                          intro K hK; go_simp; refine hK _ ?_; clear hK K
                          refine Rc.r_load rfl rfl _ _ rfl (.agg (bysA Y)) (fun x hx => load_whole (Rp.row_le (Rc.undrew hx) HY4.out) HYL.out) ?_; intro K hK; go_simp; refine hK _ ?_; clear hK K
                          refine Rc.r_load rfl rfl _ _ rfl (.agg (bysA v)) (fun x hx => load_whole (Rp.row_le (Rc.undrew hx) HV4.out) HVL.out) ?_; intro K hK; go_simp; refine hK _ ?_; clear hK K
                          refine Rc.fK rfl rfl rfl rfl ?_ ?_
                          · intro x Fs hx hle hg K hK
                            go_wp2_with fail
                            refine (node_any Y v x (HS.out.below (HO4.out.trans ((Rc.undrew hx).mono HO4.out.size))) HYL.out HVL.out).mono ?_
                            rintro e x' ⟨rfl, hb⟩
                            rw [← HNN.out]
                            go_wp2_with fail
                            exact hK Rc.dflt x' hb (fun _ _ _ _ => trivial)
                          intro K hK; go_simp; refine hK _ ?_; clear hK K
                          refine Rc.done fun x Fs hx hle hg => ?_
                          have hbx := Rc.undrew hx
                          have HCX := Lib.hid (Rp.row_le hbx HC4.out)
                          have HUX := Lib.hid (Rp.row_le hbx HU4.out)
                          have HVX := Lib.hid (Rp.row_le hbx HV4.out)
                          have HTX := Lib.hid (HT4.out.below hbx)
                          have HBX5 : Hid (Below wx.heap.size wx x) := Lib.hid (HB4.out.trans (hbx.mono HB4.out.size))
                          obtain ⟨w5, hw5⟩ : ∃ w5, w5 = x.setRow ga (bysA M) := ⟨_, rfl⟩
                          obtain ⟨w6, hw6⟩ : ∃ w6, w6 = w5.setRow gb (bysA N) := ⟨_, rfl⟩
                          have HW5 := Lib.hid hw5
                          have HW6 := Lib.hid hw6
                          have HV5 : Hid (w5.heap[gb]? = some (.cells (bysA v) 22 (0, 0))) := Lib.hid (by rw [hw5, setRow_other _ _ HNE.out.1]; exact HVX.out)
                          have hu5 : w5.heap[ga]? = some (.cells (bysA M) 22 (0, 0)) := by rw [hw5]; exact setRow_heap _ _ _ _ _ _ HUX.out
                          have HU6 : Hid (w6.heap[ga]? = some (.cells (bysA M) 22 (0, 0))) := Lib.hid (by rw [hw6, setRow_other _ _ (fun e => HNE.out.1 e.symm)]; exact hu5)
                          have HV6 : Hid (w6.heap[gb]? = some (.cells (bysA N) 22 (0, 0))) := Lib.hid (by rw [hw6]; exact setRow_heap _ _ _ _ _ _ HV5.out)
                          have HC6 : Hid (w6.heap[wx.heap.size]? = some (.cells #[.int .i64 (a : Int), .int .i64 (b : Int)] 95 (0, 0))) := Lib.hid (by rw [hw6, setRow_other _ _ (by have := HNE.out; omega), hw5, setRow_other _ _ (by have := HNE.out; omega)]; exact HCX.out)
                          have HB6 : Hid (Below wx.heap.size wx w6) := Lib.hid (by rw [hw6, hw5]; exact Rg.below_setRow (Rg.below_setRow HBX5.out (by have := HNE.out; omega) _) (by have := HNE.out; omega) _)
                          clear hx hle hg hbx hw5 hw6 hu5
                          go_wp2_with (first | (refine Rg.store_row rfl 22 _ _ rfl ga rfl 22 (bysA u) (bysA M) rfl HUX.out HIM.out (by rw [bysA_size, bysA_size, HML.out, HUL.out]) (bysA_one _) ?_; rw [← HW5.out]) | (refine Rg.store_row rfl 22 _ _ rfl gb rfl 22 (bysA v) (bysA N) rfl HV5.out HIN.out (by rw [bysA_size, bysA_size, HNL.out, HVL.out]) (bysA_one _) ?_; rw [← HW6.out]))
                          refine NoPanic.normal ?_
                          go_wp2_with (refine wpList_load_row rfl 95 _ rfl wx.heap.size rfl 95 #[.int .i64 (a : Int), .int .i64 (b : Int)] (0, 0) _ HC6.out Tryz.underlying95 rfl HIC.out ?_)
                          refine (up16_any a b w6 (by omega) (by omega) HUP.out.1 HUP.out.2).mono ?_
                          rintro e w7 ⟨rfl, hb7⟩
                          have HNX := Lib.hid (Rfc.next_lt a b HB0.out)
                          have HNY := Lib.hid (Rfc.next_le a b hab)
                          obtain ⟨a', ha'⟩ : ∃ a', a' = (Rfc.next a b).1 := ⟨_, rfl⟩
                          obtain ⟨b', hb'⟩ : ∃ b', b' = (Rfc.next a b).2 := ⟨_, rfl⟩
                          rw [← hb'] at HNX
                          rw [← ha', ← hb'] at HNY ⊢
                          have HRN : Hid (runS (a0 + 1) a0 b0 P2 = Rfc.runC nodeS a' b' (M, N) (T.drop (k + 1))) := Lib.hid (by rw [HRUN.out, HDK.out, Rfc.runC, if_neg HB0.out, HR2.out, cond_true, ha', hb', HME.out, HNN.out])
                          have HC7 := Lib.hid (Rp.row_le hb7 HC6.out)
                          have HU7 := Lib.hid (Rp.row_le hb7 HU6.out)
                          have HV7 := Lib.hid (Rp.row_le hb7 HV6.out)
                          have HB7 : Hid (Below wx.heap.size wx w7) := Lib.hid (HB6.out.trans (hb7.mono HB6.out.size))
                          clear hb7 ha' hb'
                          obtain ⟨e0, e1, e2, e3⟩ := two_cells HC7.out
                          have HTC := Lib.hid (two_stored (a' := .int .i64 (a' : Int)) (b' := .int .i64 (b' : Int)) HC7.out)
                          go_wp2_with fail
                          rw [HTC.out]
                          exact ⟨⟨k + 1, a', b', M, N, by omega, by go_num, HNY.out, by have := HNX.out; omega, HML, HNL, Lib.hid (setRow_heap _ _ _ _ _ _ HC7.out), Lib.hid (by rw [setRow_other _ _ (by have := HNE.out; omega)]; exact HU7.out), Lib.hid (by rw [setRow_other _ _ (by have := HNE.out; omega)]; exact HV7.out), Lib.hid (Rg.below_setRow HB7.out (Nat.le_refl _) _), Lib.hid (HRT0.out.below (Rg.below_setRow HB7.out (Nat.le_refl _) _)), HRN⟩, by simp [intOf]; omega⟩
                        | false =>
                          rw [hr] at hrt
                          have HR2 := Lib.hid hr
                          refine hrt.mono ?_
                          rintro e w4 ⟨rfl, hb4⟩
                          have HY4 := Lib.hid (Rp.row_le hb4 HYA.out)
                          have HC4 := Lib.hid (Rp.row_le hb4 HCA.out)
                          have HU4 := Lib.hid (Rp.row_le hb4 HUA.out)
                          have HV4 := Lib.hid (Rp.row_le hb4 HVA.out)
                          have HB4 : Hid (Below wx.heap.size wx w4) := Lib.hid (HBA.out.trans (hb4.mono HBA.out.size))
                          have HO4 : Hid (Below w.heap.size w w4) := Lib.hid (HBX.out.trans (HB4.out.mono HBX.out.size))
                          clear hb4 hr hrt c1
                          go_wp2_with (first | (refine wpList_load_row rfl 22 _ rfl gb rfl 22 (bysA v) (0, 0) _ HV4.out Tryz.underlying22 rfl HIV.out ?_) | (refine wpList_load_row rfl 22 _ rfl yb rfl 22 (bysA Y) (0, 0) _ HY4.out Tryz.underlying22 rfl HIY.out ?_))
                          refine (node_any v Y w4 (HS.out.below HO4.out) HVL.out HYL.out).mono ?_
                          rintro e w5 ⟨rfl, hb5⟩
                          obtain ⟨N, hN⟩ : ∃ N, N = nodeS v Y := ⟨_, rfl⟩
                          have HNL : Hid (N.length = 32) := Lib.hid (by rw [hN]; exact nodeS_length _ _)
                          have HNN := Lib.hid hN
                          have HIN := Lib.hid (info_of HNL.out)
                          rw [← hN]
                          have HV5 := Lib.hid (Rp.row_le hb5 HV4.out)
                          obtain ⟨w6, hw6⟩ : ∃ w6, w6 = w5.setRow gb (bysA N) := ⟨_, rfl⟩
                          have HW6 := Lib.hid hw6
                          have HV6 : Hid (w6.heap[gb]? = some (.cells (bysA N) 22 (0, 0))) := Lib.hid (by rw [hw6]; exact setRow_heap _ _ _ _ _ _ HV5.out)
                          have HU6 : Hid (w6.heap[ga]? = some (.cells (bysA u) 22 (0, 0))) := Lib.hid (by rw [hw6, setRow_other _ _ (fun e => HNE.out.1 e.symm)]; exact Rp.row_le hb5 HU4.out)
                          have HC6 : Hid (w6.heap[wx.heap.size]? = some (.cells #[.int .i64 (a : Int), .int .i64 (b : Int)] 95 (0, 0))) := Lib.hid (by rw [hw6, setRow_other _ _ (by have := HNE.out; omega)]; exact Rp.row_le hb5 HC4.out)
                          have HB6 : Hid (Below wx.heap.size wx w6) := Lib.hid (by rw [hw6]; exact Rg.below_setRow (HB4.out.trans (hb5.mono HB4.out.size)) (by have := HNE.out; omega) _)
                          obtain ⟨d0, d1, d2, d3⟩ := two_cells HC6.out
                          have HTC := Lib.hid (two_stored (a' := .int .i64 ((a : Int) / 2)) (b' := .int .i64 ((b : Int) / 2)) HC6.out)
                          have HRN : Hid (runS (a0 + 1) a0 b0 P2 = Rfc.runC nodeS (a / 2) (b / 2) (u, N) (T.drop (k + 1))) := Lib.hid (by rw [HRUN.out, HDK.out, Rfc.runC, if_neg HB0.out, HR2.out, cond_false, HNN.out])
                          clear hN hw6 hb5
                          go_wp2_with (refine Rg.store_row rfl 22 _ _ rfl gb rfl 22 (bysA v) (bysA N) rfl HV5.out HIN.out (by rw [bysA_size, bysA_size, HNL.out, HVL.out]) (bysA_one _) ?_; rw [← HW6.out])
                          rw [HTC.out]
                          exact ⟨⟨k + 1, a / 2, b / 2, u, N, by omega, by go_num, by omega, by omega, HUL, HNL, Lib.hid (setRow_heap _ _ _ _ _ _ HC6.out), Lib.hid (by rw [setRow_other _ _ (by have := HNE.out; omega)]; exact HU6.out), Lib.hid (by rw [setRow_other _ _ (by have := HNE.out; omega)]; exact HV6.out), Lib.hid (Rg.below_setRow HB6.out (Nat.le_refl _) _), Lib.hid (HRT0.out.below (Rg.below_setRow HB6.out (Nat.le_refl _) _)), HRN⟩, by simp [intOf]; omega⟩
                    · obtain rfl : k = T.length := by omega
                      have HDN : Hid (runS (a0 + 1) a0 b0 P2 = if b = 0 then some (u, v) else none) := Lib.hid (by rw [HRUN.out, List.drop_length]; rfl)
                      have c1 : wr.cell? ⟨wx.heap.size, 1, none⟩ = some (.int .i64 (b : Int)) := (cell_of_row _ _ _ _ _ _ HCB.out).trans rfl
                      have HRO9 := Lib.hid (Rp.row_le HB.out HOX.out)
                      have HRR9 := Lib.hid (Rp.row_le HB.out HRX.out)
                      by_cases hb0 : b = 0
                      · have hbI : ((b : Int) != 0) = false := by rw [hb0]; rfl
                        have hul := HUL.out
                        have hvl := HVL.out
                        have hol := HO.out
                        have hrl := HR.out
                        cases heq : (u == old) with
                        | true =>
                          cases heq2 : (v == root) with
                          | true =>
                            have HA : Hid (chkC ((a0 : Int) + 1) ((b0 : Int) + 1) P old root = 0) := Lib.hid (by rw [HE.out, HDN.out, if_pos hb0, if_pos (by rw [eq_of_beq heq, eq_of_beq heq2])])
                            go_wp2_with (first | (refine unguard16 (by rfl) ?_; refine wpList_load_row rfl 22 _ rfl ga rfl 22 (bysA u) (0, 0) _ HUB.out Tryz.underlying22 rfl HIU.out ?_) | (refine unguard16 (by rfl) ?_; refine wpList_load_row rfl 22 _ rfl gb rfl 22 (bysA v) (0, 0) _ HVB.out Tryz.underlying22 rfl HIV.out ?_) | (refine unguard16 (by rfl) ?_; refine wpList_load_row rfl 22 _ rfl w.heap.size rfl 22 (bysA old) (0, 0) _ HRO9.out Tryz.underlying22 rfl HIO.out ?_) | (refine unguard16 (by rfl) ?_; refine wpList_load_row rfl 22 _ rfl (w.heap.size + 1) rfl 22 (bysA root) (0, 0) _ HRR9.out Tryz.underlying22 rfl HIR.out ?_))
                            go_ret
                            exact ⟨by rw [HA.out]; rfl, HBO.out⟩
                          | false =>
                            have HA : Hid (chkC ((a0 : Int) + 1) ((b0 : Int) + 1) P old root = 17) := Lib.hid (by rw [HE.out, HDN.out, if_pos hb0, if_neg (fun h => by cases h; simp at heq2)])
                            go_wp2_with (first | (refine unguard16 (by rfl) ?_; refine wpList_load_row rfl 22 _ rfl ga rfl 22 (bysA u) (0, 0) _ HUB.out Tryz.underlying22 rfl HIU.out ?_) | (refine unguard16 (by rfl) ?_; refine wpList_load_row rfl 22 _ rfl gb rfl 22 (bysA v) (0, 0) _ HVB.out Tryz.underlying22 rfl HIV.out ?_) | (refine unguard16 (by rfl) ?_; refine wpList_load_row rfl 22 _ rfl w.heap.size rfl 22 (bysA old) (0, 0) _ HRO9.out Tryz.underlying22 rfl HIO.out ?_) | (refine unguard16 (by rfl) ?_; refine wpList_load_row rfl 22 _ rfl (w.heap.size + 1) rfl 22 (bysA root) (0, 0) _ HRR9.out Tryz.underlying22 rfl HIR.out ?_))
                            go_ret
                            exact ⟨by rw [HA.out]; rfl, HBO.out⟩
                        | false =>
                          have HA : Hid (chkC ((a0 : Int) + 1) ((b0 : Int) + 1) P old root = 17) := Lib.hid (by rw [HE.out, HDN.out, if_pos hb0, if_neg (fun h => by cases h; simp at heq)])
                          go_wp2_with (first | (refine unguard16 (by rfl) ?_; refine wpList_load_row rfl 22 _ rfl ga rfl 22 (bysA u) (0, 0) _ HUB.out Tryz.underlying22 rfl HIU.out ?_) | (refine unguard16 (by rfl) ?_; refine wpList_load_row rfl 22 _ rfl gb rfl 22 (bysA v) (0, 0) _ HVB.out Tryz.underlying22 rfl HIV.out ?_) | (refine unguard16 (by rfl) ?_; refine wpList_load_row rfl 22 _ rfl w.heap.size rfl 22 (bysA old) (0, 0) _ HRO9.out Tryz.underlying22 rfl HIO.out ?_) | (refine unguard16 (by rfl) ?_; refine wpList_load_row rfl 22 _ rfl (w.heap.size + 1) rfl 22 (bysA root) (0, 0) _ HRR9.out Tryz.underlying22 rfl HIR.out ?_))
                          go_ret
                          exact ⟨by rw [HA.out]; rfl, HBO.out⟩
                      · have hbI : ((b : Int) != 0) = true := by rw [bne_iff_ne]; omega
                        have HA : Hid (chkC ((a0 : Int) + 1) ((b0 : Int) + 1) P old root = 17) := Lib.hid (by rw [HE.out, HDN.out, if_neg hb0]; rfl)
                        clear hb0
                        go_wp2_with (first | (refine unguard16 (by rfl) ?_; refine wpList_load_row rfl 22 _ rfl ga rfl 22 (bysA u) (0, 0) _ HUB.out Tryz.underlying22 rfl HIU.out ?_) | (refine unguard16 (by rfl) ?_; refine wpList_load_row rfl 22 _ rfl gb rfl 22 (bysA v) (0, 0) _ HVB.out Tryz.underlying22 rfl HIV.out ?_) | (refine unguard16 (by rfl) ?_; refine wpList_load_row rfl 22 _ rfl w.heap.size rfl 22 (bysA old) (0, 0) _ HRO9.out Tryz.underlying22 rfl HIO.out ?_) | (refine unguard16 (by rfl) ?_; refine wpList_load_row rfl 22 _ rfl (w.heap.size + 1) rfl 22 (bysA root) (0, 0) _ HRR9.out Tryz.underlying22 rfl HIR.out ?_))
                        go_ret
                        exact ⟨by rw [HA.out]; rfl, HBO.out⟩
          | true =>
            rw [hpq] at hpw
            obtain ⟨P2, hP2⟩ : ∃ P2, P2 = old :: P := ⟨_, rfl⟩
            have HE : Hid (chkC ((a0 : Int) + 1) ((b0 : Int) + 1) P old root = if runS (a0 + 1) a0 b0 P2 = some (old, root) then 0 else 17) := Lib.hid (by rw [hE, hpq, hP2]; rfl)
            have hfill := fill_all (bysA old) (bysA zeros32) (by rw [bysA_size, HO.out]; rfl)
            rw [show (bysA old).size = 32 by rw [bysA_size, HO.out]] at hfill
            have HFILL := Lib.hid hfill
            have hsN : (bysA old).size = 32 := by rw [bysA_size, HO.out]
            have HP1 := Lib.hid (HP.out.below HB1.out)
            have HLIT := Lib.hid (Ow.lit w1 (bysA old) 22 32 1 w.heap.size HB1.out.size (by decide) (by rw [bysA_size, HO.out]))
            have HPL : Hid (1 + P.length = P2.length) := Lib.hid (by rw [hP2, List.length_cons, Nat.add_comm])
            have HP2 := Lib.hid hP2
            have hal : Below w1.heap.size w1 (w1.alloc (.cells (bysA old) 22)) := (Below.refl _ _).alloc (Nat.le_refl _) _
            have HPA := Lib.hid (HP1.out.below hal)
            have HAL := Lib.hid hal
            have hbs := HB1.out.size
            clear hpq hE hfill hP2 hal
            refine hpw.mono ?_
            clear hpw
            rintro e w1' ⟨rfl, rfl⟩
            go_wp2_with (first | (refine wpList_load_row rfl 22 _ rfl w.heap.size rfl 22 (bysA old) (0, 0) _ HRO.out Tryz.underlying22 rfl HIO.out ?_) | (rw [z32r, HFILL.out]; at_builtin; go_must (refine app_ow rfl _ _ 32 32 rfl w.heap.size 22 i0 (.agg (bysA zeros32)) 32 32 Tryz.underlying32 hi hz0 hz1 hz2 (by rfl) _ 1 _ rfl HLIT.out _ P.length _ rfl (Rd.src Tryz.underlying32 HPA.out.2 (bys_one _)) (by unfold maxLen; omega) (by omega) (by simp; omega) ?_); go_must (intro v4 wx how4 hg4); go_must (rw [HPL.out] at how4); go_must (obtain ⟨q2, c2, rfl⟩ := Ow_form how4); go_must (refine Hid.out ?_)))
            refine Lib.hid ?_
            have hg4 : (w1'.alloc (.cells (bysA old) 22)).grownBy wx (some w1'.heap.size) := hg4
            have hlo := lt_of_heap HRO.out
            have hlr := lt_of_heap HRR.out
            have hbx : Below w.heap.size w (w1'.alloc (.cells (bysA old) 22)) := HB1.out.trans (HAL.out.mono HB1.out.size)
            have HBX : Hid (Below w.heap.size w wx) := Lib.hid (hbx.grown hg4 hbx.size (fun j hj => by cases hj; exact HB1.out.size))
            have HOX : Hid (wx.heap[w.heap.size]? = some (.cells (bysA old) 22 (0, 0))) := Lib.hid ((hg4.block _ (by simp; omega) (fun e => by injection e; omega)).trans ((Rg.heap_alloc_past _ _ _ hlo).trans HRO.out))
            have HRX : Hid (wx.heap[w.heap.size + 1]? = some (.cells (bysA root) 22 (0, 0))) := Lib.hid ((hg4.block _ (by simp; omega) (fun e => by injection e; omega)).trans ((Rg.heap_alloc_past _ _ _ hlr).trans HRR.out))
            have HRD2 : Hid (RdL wx (.slice q2 P2.length c2) P2) := Lib.hid ⟨by rw [HP2.out]; exact (All32.one HO.out).append HP.out.1, by
              have := Rd.of_ow how4
              rw [HP2.out] at this ⊢
              rw [List.flatten_cons, bys_append]
              simpa [bysA] using this⟩
            have hP3 : P2.length ≤ 1001 := by have := HPL.out; omega
            clear how4 hg4 hlo hlr hbx hbs hsN HP HP1 HPA HLIT HAL HPL HP2 HFILL
            by_cases hP0 : P2 = []
            · have hl0 : ((P2.length : Int) == 0) = true := by rw [hP0]; rfl
              have HA : Hid (chkC ((a0 : Int) + 1) ((b0 : Int) + 1) P old root = 17) := Lib.hid (by rw [HE.out, hP0]; rfl)
              clear hP0
              go_wp2_with fail
              go_ret
              exact ⟨by rw [HA.out]; rfl, HBX.out⟩
            · obtain ⟨X, T, hXT⟩ : ∃ X T, P2 = X :: T := by
                cases P2 with
                | nil => exact absurd rfl hP0
                | cons X T => exact ⟨X, T, rfl⟩
              have HXT := Lib.hid hXT
              have hT1 : P2.length - 1 = T.length := by rw [hXT]; rfl
              have hlp : 0 < P2.length := by rw [hXT]; simp
              have hl0 : ((P2.length : Int) == 0) = false := by rw [beq_eq_false_iff_ne]; omega
              have hX0 : P2.getD 0 [] = X := by rw [hXT]; rfl
              have HXL : Hid (X.length = 32) := Lib.hid (HRD2.out.1 X (by rw [hXT]; simp))
              obtain ⟨bp, op, hqe, hbp, hnc2, hcm2, hload⟩ := HRD2.out.load hlp
              subst hqe
              have hDR := fun (o' : Nat) (h : 1 < P2.length → o' = op + 1 * 32) => (show RdL wx (.slice (some ⟨bp, o', none⟩) T.length (c2 - 1)) T from by
                rcases T with _ | ⟨y, T⟩
                · exact ⟨(by intro x h; cases h), rfl, .inr ⟨bp, o', c2 - 1, rfl, hbp, Nat.zero_le _, by omega, fun j u hu => by cases hu⟩⟩
                · have := HRD2.out.drop (k := 1) hlp
                  rw [hT1, hXT] at this
                  rw [h (by rw [hXT]; simp)]
                  exact this)
              have HDR := Lib.hid hDR
              rw [hX0] at hload
              have hload' : ∀ x, Below wx.heap.size wx x → (Instr.loadAt 22 (.pointer (some ⟨bp, op, none⟩))).run Tryz.prog x = .ok (.agg (bysA X)) x := fun x hx => by have := hload x hx; simpa using this
              have HLD := Lib.hid hload'
              have hT63 : T.length ≤ 1001 := by omega
              clear hload hload' hDR hXT hX0 hP0
              have hpos : (0 : Int) < (P2.length : Int) := by omega
              obtain ⟨wc, hwc⟩ : ∃ wc, wc = wx.alloc (.cells #[.int .i64 (a0 : Int), .int .i64 (b0 : Int)] 95) := ⟨_, rfl⟩
              have HBC : Hid (Below wx.heap.size wx wc) := Lib.hid (by rw [hwc]; exact (Below.refl _ _).alloc (Nat.le_refl _) _)
              have HCC : Hid (wc.heap[wx.heap.size]? = some (.cells #[.int .i64 (a0 : Int), .int .i64 (b0 : Int)] 95 (0, 0))) := Lib.hid (by rw [hwc]; exact Rg.heap_alloc_at _ _ _ rfl)
              have HWC := Lib.hid hwc
              clear hwc
              go_wp2_with fail
              rw [← HWC.out]
              go_loopw [] (fun wr => ∃ (f a b : Nat), a ≤ f ∧ a ≤ b ∧ b < 9223372036854775807 ∧ Hid (Rfc.ones f a b = Rfc.ones (a0 + 1) a0 b0) ∧ Hid (wr.heap[wx.heap.size]? = some (.cells #[.int .i64 (a : Int), .int .i64 (b : Int)] 95 (0, 0))) ∧ Hid (Below wx.heap.size wx wr)) (fun wr => (intOf ((wr.cell? ⟨wx.heap.size, 0, none⟩).getD undef)).toNat)
              case atStart => exact ⟨a0 + 1, a0, b0, by omega, by omega, by omega, Lib.hid rfl, HCC, HBC⟩
              case round =>
                obtain ⟨f, a, b, haf, hab, hbb, HON, HCB, HB⟩ := hrel
                have hx1 := and_one a (by omega)
                obtain ⟨e0, e1, e2, e3⟩ := two_cells HCB.out
                by_cases ho : a % 2 = 1
                · have hx2 : bits .and .i64 (a : Int) (1 : Int) = 1 := by rw [hx1, ho]; rfl
                  have HTC := Lib.hid (two_stored (a' := .int .i64 ((a : Int) / 2)) (b' := .int .i64 ((b : Int) / 2)) HCB.out)
                  have HE0 := Lib.hid e0
                  clear hx1
                  go_wp2_with fail
                  rw [HTC.out]
                  obtain ⟨f, rfl⟩ : ∃ g, f = g + 1 := ⟨f - 1, by omega⟩
                  have hrow := setRow_heap wr wx.heap.size #[.int .i64 (a : Int), .int .i64 (b : Int)] #[.int .i64 ((a : Int) / 2), .int .i64 ((b : Int) / 2)] 95 (0, 0) HCB.out
                  refine ⟨⟨f, a / 2, b / 2, by omega, by omega, by omega, Lib.hid (by rw [← HON.out, Rfc.ones, if_pos ho]), Lib.hid hrow, Lib.hid (Rg.below_setRow HB.out (Nat.le_refl _) _)⟩, ?_⟩
                  have h1 : (wr.setRow wx.heap.size #[.int .i64 ((a : Int) / 2), .int .i64 ((b : Int) / 2)]).cell? ⟨wx.heap.size, 0, none⟩ = some (.int .i64 ((a : Int) / 2)) := (cell_of_row _ _ _ _ _ _ hrow).trans rfl
                  rw [h1, HE0.out]
                  show ((a : Int) / 2).toNat < (a : Int).toNat
                  omega
                · have hx2 : bits .and .i64 (a : Int) (1 : Int) = 0 := by rw [hx1]; omega
                  have HRS : Hid (runS (a0 + 1) a0 b0 P2 = Rfc.runC nodeS a b (X, X) T) := Lib.hid (by
                    rw [HXT.out]
                    unfold runS
                    rw [← HON.out]
                    cases f with
                    | zero => rfl
                    | succ f => rw [Rfc.ones, if_neg ho])
                  clear hx1 e2 e3
                  clear HON
                  go_wp2_with fail
                  refine Rc.region (wr.heap.size) 9 [Rc.F 6 (fun p => .pointer (some ⟨p.c, 0, none⟩)) (fun p F y => (y.heap[p.c]? = some (.cells (bysA zeros32) 22 (0, 0)) ∧ wr.heap.size ≤ p.c) ∧ F p.c), Rc.F 7 (fun p => .pointer (some ⟨p.c, 0, none⟩)) (fun p F y => (y.heap[p.c]? = some (.cells (bysA zeros32) 22 (0, 0)) ∧ wr.heap.size ≤ p.c) ∧ F p.c), ⟨8, [6], [6], some (fun _ _ => undef), fun p _ F y => (y.heap[(p 6).c]? = some (.cells (bysA X) 22 (0, 0)) ∧ wr.heap.size ≤ (p 6).c) ∧ F (p 6).c⟩] [7, 8] (by kernel_rfl) (Nat.le_refl _) (by kernel_rfl) ?_; intro p; simp only [List.take, List.drop]
                  iterate 2 (refine Rc.rK rfl rfl ?_; intro K hK; apply Exists.intro; refine ⟨?_, ?_⟩; (focus (intro x hx;  go_simp; (first | (fail) | ((try go_bits); (try go_simp); (try rfl))))); go_simp; refine hK _ ?_; clear hK K)
                  refine Rc.r_load rfl rfl _ _ rfl (.agg (bysA X)) (fun x hx => HLD.out x (HB.out.trans ((Rc.undrew hx).mono HB.out.size))) ?_; intro K hK; go_simp; refine hK _ ?_; clear hK K
                  iterate 2 (refine Rc.rK rfl rfl ?_; intro K hK; apply Exists.intro; refine ⟨?_, ?_⟩; (focus (intro x hx;  go_simp; (first | (fail) | ((try go_bits); (try go_simp); (try rfl))))); go_simp; refine hK _ ?_; clear hK K)
                  refine Rc.r_load rfl rfl _ _ rfl (.agg (bysA X)) (fun x hx => HLD.out x (HB.out.trans ((Rc.undrew hx).mono HB.out.size))) ?_; intro K hK; go_simp; refine hK _ ?_; clear hK K
                  refine Rc.fK rfl rfl rfl rfl ?_ ?_
                  · intro x Fs hx hle hg K hK
                    go_wp2_with fail
                    rw [z32r]
                    exact hK ⟨none, x.heap.size, undef⟩ _ ((Below.refl _ _).alloc (Nat.le_refl _) _) fun F y hF hy => ⟨⟨(hy.block _ (by simp) (.inr (hF _ (Nat.le_refl _) (by simp)))).trans (Rg.heap_alloc_at _ _ _ rfl), hle⟩, hF _ (Nat.le_refl _) (by simp)⟩
                  intro K hK; go_simp; refine hK _ ?_; clear hK K
                  refine Rc.fK rfl rfl rfl rfl ?_ ?_
                  · intro x Fs hx hle hg K hK
                    go_wp2_with fail
                    rw [z32r]
                    exact hK ⟨none, x.heap.size, undef⟩ _ ((Below.refl _ _).alloc (Nat.le_refl _) _) fun F y hF hy => ⟨⟨(hy.block _ (by simp) (.inr (hF _ (Nat.le_refl _) (by simp)))).trans (Rg.heap_alloc_at _ _ _ rfl), hle⟩, hF _ (Nat.le_refl _) (by simp)⟩
                  intro K hK; go_simp; refine hK _ ?_; clear hK K
                  refine Rc.cK rfl rfl rfl ?_ ?_
                  · intro x Fs hx hle hg K hK
                    have HG : Hid (x.heap[(p 6).c]? = some (.cells (bysA zeros32) 22 (0, 0)) ∧ wr.heap.size ≤ (p 6).c) := Lib.hid hg.1.1
                    have HF : Hid (Fs 6 (p 6).c) := Lib.hid hg.1.2
                    clear hg
                    have HIX := Lib.hid (info_of HXL.out)
                    go_wp2_with (refine Rg.store_row rfl 22 _ _ rfl (p 6).c rfl 22 (bysA zeros32) (bysA X) rfl HG.out.1 HIX.out (by rw [bysA_size, bysA_size, HXL.out]; rfl) (bysA_one _) ?_)
                    have hu : Rc.used Fs [6] (p 6).c := ⟨6, by simp, HF.out⟩
                    exact hK Rc.dflt _ ⟨rfl, rfl, rfl, by rw [setRow_size]; exact Nat.le_refl _, fun k _ hn => setRow_other _ _ (fun e => hn (e ▸ hu))⟩ fun y hy => ⟨⟨(hy.block _ (by rw [setRow_size]; exact lt_of_heap HG.out.1) (.inr (.inl hu))).trans (setRow_heap _ _ _ _ _ _ HG.out.1), HG.out.2⟩, .inl hu⟩
                  intro K hK; go_simp; refine hK _ ?_; clear hK K
                  refine Rc.done2 fun x Fs hx hle hdis hg => ?_
                  have hne : (p 6).c ≠ (p 7).c := fun e => hdis 7 (by simp) 8 (by simp) (by decide) (p 7).c hg.1.2 (e ▸ hg.2.1.2)
                  obtain ⟨ga, hga⟩ : ∃ ga, ga = (p 6).c := ⟨_, rfl⟩
                  obtain ⟨gb, hgb⟩ : ∃ gb, gb = (p 7).c := ⟨_, rfl⟩
                  have HGA : Hid (x.heap[ga]? = some (.cells (bysA X) 22 (0, 0))) := Lib.hid (by rw [hga]; exact hg.2.1.1.1)
                  have HGB : Hid (x.heap[gb]? = some (.cells (bysA zeros32) 22 (0, 0))) := Lib.hid (by rw [hgb]; exact hg.1.1.1)
                  have hgar : wr.heap.size ≤ ga := by rw [hga]; exact hg.2.1.1.2
                  have hgbr : wr.heap.size ≤ gb := by rw [hgb]; exact hg.1.1.2
                  have hcl := lt_of_heap HCB.out
                  have HCX : Hid (x.heap[wx.heap.size]? = some (.cells #[.int .i64 (a : Int), .int .i64 (b : Int)] 95 (0, 0))) := Lib.hid (Rp.row_le (Rc.undrew hx) HCB.out)
                  have HBW : Hid (Below wx.heap.size wx x) := Lib.hid (HB.out.trans ((Rc.undrew hx).mono HB.out.size))
                  rw [← hga, ← hgb] at hne ⊢
                  have HIX := Lib.hid (info_of HXL.out)
                  have HNE := Lib.hid (And.intro hne (And.intro (Nat.lt_of_lt_of_le hcl hgar) (Nat.lt_of_lt_of_le hcl hgbr)))
                  obtain ⟨wg, hwg⟩ : ∃ wg, wg = x.setRow gb (bysA X) := ⟨_, rfl⟩
                  have HWG := Lib.hid hwg
                  have HGA1 : Hid (wg.heap[ga]? = some (.cells (bysA X) 22 (0, 0))) := Lib.hid (by rw [hwg, setRow_other _ _ (fun e => hne e.symm)]; exact HGA.out)
                  have HGB1 : Hid (wg.heap[gb]? = some (.cells (bysA X) 22 (0, 0))) := Lib.hid (by rw [hwg]; exact setRow_heap _ _ _ _ _ _ HGB.out)
                  have HCG1 : Hid (wg.heap[wx.heap.size]? = some (.cells #[.int .i64 (a : Int), .int .i64 (b : Int)] 95 (0, 0))) := Lib.hid (by rw [hwg, setRow_other _ _ (by omega)]; exact HCX.out)
                  have HBG1 : Hid (Below wx.heap.size wx wg) := Lib.hid (by rw [hwg]; exact Rg.below_setRow HBW.out (by omega) _)
                  clear hga hgb hg hdis hx hle hne hgar hgbr hcl e0 e1 hwg
                  go_wp2_with (refine Rg.store_row rfl 22 _ _ rfl gb rfl 22 (bysA zeros32) (bysA X) rfl HGB.out HIX.out (by rw [bysA_size, bysA_size, HXL.out]; rfl) (bysA_one _) ?_; rw [← HWG.out])
                  refine NoPanic.normal ?_
                  go_wp2_with (refine l_cutlo2 rfl 32 _ _ rfl 22 i0 Tryz.underlying32 hi bp op P2.length c2 1 32 T.length hz1 rfl rfl hlp hnc2 hT1 ?_; go_must (intro o3 ho3))
                  have HRT0 := Lib.hid (HDR.out o3 ho3)
                  have HRT := Lib.hid ((HDR.out o3 ho3).below HBG1.out)
                  clear ho3
                  obtain ⟨c3, hc3⟩ : ∃ c3, c3 = c2 - 1 := ⟨_, rfl⟩
                  rw [← hc3] at HRT HRT0 ⊢
                  clear hc3 hnc2 hcm2 HDR HWG HGA HGB HCX HBW
                  go_loopw [72] (fun kv wr => ∃ (k a b : Nat) (u v : List UInt8), k ≤ T.length ∧ kv = .int .i64 k ∧ a ≤ b ∧ b < 9223372036854775807 ∧ Hid (u.length = 32) ∧ Hid (v.length = 32) ∧ Hid (wr.heap[wx.heap.size]? = some (.cells #[.int .i64 (a : Int), .int .i64 (b : Int)] 95 (0, 0))) ∧
                    Hid (wr.heap[ga]? = some (.cells (bysA u) 22 (0, 0))) ∧ Hid (wr.heap[gb]? = some (.cells (bysA v) 22 (0, 0))) ∧ Hid (Below wx.heap.size wx wr) ∧ Hid (RdL wr (.slice (some ⟨bp, o3, none⟩) T.length c3) T) ∧ Hid (runS (a0 + 1) a0 b0 P2 = Rfc.runC nodeS a b (u, v) (T.drop k))) (fun kv _ => T.length - (intOf kv).toNat)
                  case atStart => exact ⟨0, a, b, X, X, Nat.zero_le _, rfl, hab, hbb, HXL, HXL, HCG1, HGA1, HGB1, HBG1, HRT, Lib.hid (by rw [List.drop_zero]; exact HRS.out)⟩
                  case round =>
                    obtain ⟨k, a, b, u, v, hk, rfl, hab, hbb, HUL, HVL, HCB, HUB, HVB, HB, HRT, HRUN⟩ := hrel
                    clear HRS HCG1 HGA1 HGB1 HBG1 HCC HBC
                    have HIU := Lib.hid (info_of HUL.out)
                    have HIV := Lib.hid (info_of HVL.out)
                    have HIC := Lib.hid (infoCl a b)
                    have HBO : Hid (Below w.heap.size w wr) := Lib.hid (HBX.out.trans (HB.out.mono HBX.out.size))
                    by_cases hlt : k < T.length
                    · have hltI : (k : Int) < T.length := by omega
                      obtain ⟨bt, ot, hte, hbt, hct1, hct2, hload⟩ := HRT.out.load hlt
                      obtain ⟨rfl, rfl⟩ : bp = bt ∧ o3 = ot := by cases hte; exact ⟨rfl, rfl⟩
                      obtain ⟨Y, hY⟩ : ∃ Y, Y = T.getD k [] := ⟨_, rfl⟩
                      have HYL : Hid (Y.length = 32) := Lib.hid (by rw [hY]; exact HRT.out.1.getD hlt)
                      have HDK : Hid (T.drop k = Y :: T.drop (k + 1)) := Lib.hid (by rw [hY, List.drop_eq_getElem_cons hlt]; simp [List.getD, hlt])
                      rw [← hY] at hload
                      have HLY := Lib.hid (hload wr (Below.refl _ _))
                      have HIY := Lib.hid (info_of HYL.out)
                      obtain ⟨wa, hwa⟩ : ∃ wa, wa = wr.alloc (.cells (bysA Y) 22) := ⟨_, rfl⟩
                      have hba : Below wr.heap.size wr wa := by rw [hwa]; exact (Below.refl _ _).alloc (Nat.le_refl _) _
                      have HYA : Hid (wa.heap[wr.heap.size]? = some (.cells (bysA Y) 22 (0, 0))) := Lib.hid (by rw [hwa]; exact Rg.heap_alloc_at _ _ _ rfl)
                      have HCA := Lib.hid (Rp.row_le hba HCB.out)
                      have HUA := Lib.hid (Rp.row_le hba HUB.out)
                      have HVA := Lib.hid (Rp.row_le hba HVB.out)
                      have HBA : Hid (Below wx.heap.size wx wa) := Lib.hid (HB.out.trans (hba.mono HB.out.size))
                      have HTA := Lib.hid (HRT.out.below hba)
                      have c1 : wa.cell? ⟨wx.heap.size, 1, none⟩ = some (.int .i64 (b : Int)) := (cell_of_row _ _ _ _ _ _ HCA.out).trans rfl
                      have HWA := Lib.hid hwa
                      obtain ⟨yb, hyb⟩ : ∃ yb, yb = wr.heap.size := ⟨_, rfl⟩
                      rw [← hyb] at HYA
                      clear hload hY hwa hba hte hct1 hct2 hbt
                      by_cases hb0 : b = 0
                      · have hbI : ((b : Int) == 0) = true := by rw [hb0]; rfl
                        have HA : Hid (chkC ((a0 : Int) + 1) ((b0 : Int) + 1) P old root = 17) := Lib.hid (by rw [HE.out, HRUN.out, HDK.out, Rfc.runC, if_pos hb0]; rfl)
                        have HBW : Hid (Below w.heap.size w wa) := Lib.hid (HBX.out.trans (HBA.out.mono HBX.out.size))
                        clear hb0
                        go_wp2_with (first | (refine l_load rfl _ _ rfl _ HLY.out ?_) | (refine Rg.store_row_new rfl 22 _ _ rfl wr.heap.size rfl rfl 22 _ (bysA Y) rfl HIY.out (by rw [bysA_size, HYL.out]; rfl) (bysA_one _) ?_; rw [← HWA.out]))
                        go_ret
                        exact ⟨by rw [HA.out]; rfl, HBW.out⟩
                      · have hbI : ((b : Int) == 0) = false := by rw [beq_eq_false_iff_ne]; omega
                        have HB0 := Lib.hid hb0
                        clear hb0
                        go_wp2_with (first | (refine l_load rfl _ _ rfl _ HLY.out ?_) | (refine Rg.store_row_new rfl 22 _ _ rfl wr.heap.size rfl rfl 22 _ (bysA Y) rfl HIY.out (by rw [bysA_size, HYL.out]; rfl) (bysA_one _) ?_; rw [← HWA.out]) | (refine wpList_load_row rfl 95 _ rfl wx.heap.size rfl 95 #[.int .i64 (a : Int), .int .i64 (b : Int)] (0, 0) _ HCA.out Tryz.underlying95 rfl HIC.out ?_))
                        rw [← hyb]
                        clear hyb
                        have hrt := right16_any a b wa (by omega) (by omega)
                        cases hr : Rfc.right a b with
                        | true =>
                          rw [hr] at hrt
                          have HUP := Lib.hid (right_up hr HB0.out)
                          have HR2 := Lib.hid hr
                          refine hrt.mono ?_
                          rintro e w4 ⟨rfl, hb4⟩
                          have HY4 := Lib.hid (Rp.row_le hb4 HYA.out)
                          have HC4 := Lib.hid (Rp.row_le hb4 HCA.out)
                          have HU4 := Lib.hid (Rp.row_le hb4 HUA.out)
                          have HV4 := Lib.hid (Rp.row_le hb4 HVA.out)
                          have HT4 := Lib.hid (HTA.out.below hb4)
                          have HB4 : Hid (Below wx.heap.size wx w4) := Lib.hid (HBA.out.trans (hb4.mono HBA.out.size))
                          have HO4 : Hid (Below w.heap.size w w4) := Lib.hid (HBX.out.trans (HB4.out.mono HBX.out.size))
                          obtain ⟨M, hM⟩ : ∃ M, M = nodeS Y u := ⟨_, rfl⟩
                          obtain ⟨N, hN⟩ : ∃ N, N = nodeS Y v := ⟨_, rfl⟩
                          have HML : Hid (M.length = 32) := Lib.hid (by rw [hM]; exact nodeS_length _ _)
                          have HNL : Hid (N.length = 32) := Lib.hid (by rw [hN]; exact nodeS_length _ _)
                          have HME := Lib.hid hM
                          have HNN := Lib.hid hN
                          have HIM := Lib.hid (info_of HML.out)
                          have HIN := Lib.hid (info_of HNL.out)
                          clear hb4 hr hrt c1 hM hN
                          go_wp2_with fail
                          refine Rc.region (w4.heap.size) 6 [Rc.F 2 (fun _ => .agg (bysA M)) (fun _ _ _ => True), Rc.F 5 (fun _ => .agg (bysA N)) (fun _ _ _ => True)] [] (by kernel_rfl) (Nat.le_refl _) (by kernel_rfl) ?_; intro p; simp only [List.take, List.drop]
                          refine Rc.r_load rfl rfl _ _ rfl (.agg (bysA Y)) (fun x hx => load_whole (Rp.row_le (Rc.undrew hx) HY4.out) HYL.out) ?_; intro K hK; go_simp; refine hK _ ?_; clear hK K
                          refine Rc.r_load rfl rfl _ _ rfl (.agg (bysA u)) (fun x hx => load_whole (Rp.row_le (Rc.undrew hx) HU4.out) HUL.out) ?_; intro K hK; go_simp; refine hK _ ?_; clear hK K
                          refine Rc.fK rfl rfl rfl rfl ?_ ?_
                          · intro x Fs hx hle hg K hK
                            go_wp2_with fail
                            refine (node_any Y u x (HS.out.below (HO4.out.trans ((Rc.undrew hx).mono HO4.out.size))) HYL.out HUL.out).mono ?_
                            rintro e x' ⟨rfl, hb⟩
                            rw [← HME.out]
                            go_wp2_with fail
                            exact hK Rc.dflt x' hb (fun _ _ _ _ => trivial)
                          intro K hK; go_simp; refine hK _ ?_; clear hK K
                          refine Rc.r_load rfl rfl _ _ rfl (.agg (bysA Y)) (fun x hx => load_whole (Rp.row_le (Rc.undrew hx) HY4.out) HYL.out) ?_; intro K hK; go_simp; refine hK _ ?_; clear hK K
                          refine Rc.r_load rfl rfl _ _ rfl (.agg (bysA v)) (fun x hx => load_whole (Rp.row_le (Rc.undrew hx) HV4.out) HVL.out) ?_; intro K hK; go_simp; refine hK _ ?_; clear hK K
                          refine Rc.fK rfl rfl rfl rfl ?_ ?_
                          · intro x Fs hx hle hg K hK
                            go_wp2_with fail
                            refine (node_any Y v x (HS.out.below (HO4.out.trans ((Rc.undrew hx).mono HO4.out.size))) HYL.out HVL.out).mono ?_
                            rintro e x' ⟨rfl, hb⟩
                            rw [← HNN.out]
                            go_wp2_with fail
                            exact hK Rc.dflt x' hb (fun _ _ _ _ => trivial)
                          intro K hK; go_simp; refine hK _ ?_; clear hK K
                          refine Rc.done fun x Fs hx hle hg => ?_
                          have hbx := Rc.undrew hx
                          have HCX := Lib.hid (Rp.row_le hbx HC4.out)
                          have HUX := Lib.hid (Rp.row_le hbx HU4.out)
                          have HVX := Lib.hid (Rp.row_le hbx HV4.out)
                          have HTX := Lib.hid (HT4.out.below hbx)
                          have HBX5 : Hid (Below wx.heap.size wx x) := Lib.hid (HB4.out.trans (hbx.mono HB4.out.size))
                          obtain ⟨w5, hw5⟩ : ∃ w5, w5 = x.setRow ga (bysA M) := ⟨_, rfl⟩
                          obtain ⟨w6, hw6⟩ : ∃ w6, w6 = w5.setRow gb (bysA N) := ⟨_, rfl⟩
                          have HW5 := Lib.hid hw5
                          have HW6 := Lib.hid hw6
                          have HV5 : Hid (w5.heap[gb]? = some (.cells (bysA v) 22 (0, 0))) := Lib.hid (by rw [hw5, setRow_other _ _ HNE.out.1]; exact HVX.out)
                          have hu5 : w5.heap[ga]? = some (.cells (bysA M) 22 (0, 0)) := by rw [hw5]; exact setRow_heap _ _ _ _ _ _ HUX.out
                          have HU6 : Hid (w6.heap[ga]? = some (.cells (bysA M) 22 (0, 0))) := Lib.hid (by rw [hw6, setRow_other _ _ (fun e => HNE.out.1 e.symm)]; exact hu5)
                          have HV6 : Hid (w6.heap[gb]? = some (.cells (bysA N) 22 (0, 0))) := Lib.hid (by rw [hw6]; exact setRow_heap _ _ _ _ _ _ HV5.out)
                          have HC6 : Hid (w6.heap[wx.heap.size]? = some (.cells #[.int .i64 (a : Int), .int .i64 (b : Int)] 95 (0, 0))) := Lib.hid (by rw [hw6, setRow_other _ _ (by have := HNE.out; omega), hw5, setRow_other _ _ (by have := HNE.out; omega)]; exact HCX.out)
                          have HB6 : Hid (Below wx.heap.size wx w6) := Lib.hid (by rw [hw6, hw5]; exact Rg.below_setRow (Rg.below_setRow HBX5.out (by have := HNE.out; omega) _) (by have := HNE.out; omega) _)
                          clear hx hle hg hbx hw5 hw6 hu5
                          go_wp2_with (first | (refine Rg.store_row rfl 22 _ _ rfl ga rfl 22 (bysA u) (bysA M) rfl HUX.out HIM.out (by rw [bysA_size, bysA_size, HML.out, HUL.out]) (bysA_one _) ?_; rw [← HW5.out]) | (refine Rg.store_row rfl 22 _ _ rfl gb rfl 22 (bysA v) (bysA N) rfl HV5.out HIN.out (by rw [bysA_size, bysA_size, HNL.out, HVL.out]) (bysA_one _) ?_; rw [← HW6.out]))
                          refine NoPanic.normal ?_
                          go_wp2_with (refine wpList_load_row rfl 95 _ rfl wx.heap.size rfl 95 #[.int .i64 (a : Int), .int .i64 (b : Int)] (0, 0) _ HC6.out Tryz.underlying95 rfl HIC.out ?_)
                          refine (up16_any a b w6 (by omega) (by omega) HUP.out.1 HUP.out.2).mono ?_
                          rintro e w7 ⟨rfl, hb7⟩
                          have HNX := Lib.hid (Rfc.next_lt a b HB0.out)
                          have HNY := Lib.hid (Rfc.next_le a b hab)
                          obtain ⟨a', ha'⟩ : ∃ a', a' = (Rfc.next a b).1 := ⟨_, rfl⟩
                          obtain ⟨b', hb'⟩ : ∃ b', b' = (Rfc.next a b).2 := ⟨_, rfl⟩
                          rw [← hb'] at HNX
                          rw [← ha', ← hb'] at HNY ⊢
                          have HRN : Hid (runS (a0 + 1) a0 b0 P2 = Rfc.runC nodeS a' b' (M, N) (T.drop (k + 1))) := Lib.hid (by rw [HRUN.out, HDK.out, Rfc.runC, if_neg HB0.out, HR2.out, cond_true, ha', hb', HME.out, HNN.out])
                          have HC7 := Lib.hid (Rp.row_le hb7 HC6.out)
                          have HU7 := Lib.hid (Rp.row_le hb7 HU6.out)
                          have HV7 := Lib.hid (Rp.row_le hb7 HV6.out)
                          have HB7 : Hid (Below wx.heap.size wx w7) := Lib.hid (HB6.out.trans (hb7.mono HB6.out.size))
                          clear hb7 ha' hb'
                          obtain ⟨e0, e1, e2, e3⟩ := two_cells HC7.out
                          have HTC := Lib.hid (two_stored (a' := .int .i64 (a' : Int)) (b' := .int .i64 (b' : Int)) HC7.out)
                          go_wp2_with fail
                          rw [HTC.out]
                          exact ⟨⟨k + 1, a', b', M, N, by omega, by go_num, HNY.out, by have := HNX.out; omega, HML, HNL, Lib.hid (setRow_heap _ _ _ _ _ _ HC7.out), Lib.hid (by rw [setRow_other _ _ (by have := HNE.out; omega)]; exact HU7.out), Lib.hid (by rw [setRow_other _ _ (by have := HNE.out; omega)]; exact HV7.out), Lib.hid (Rg.below_setRow HB7.out (Nat.le_refl _) _), Lib.hid (HRT0.out.below (Rg.below_setRow HB7.out (Nat.le_refl _) _)), HRN⟩, by simp [intOf]; omega⟩
                        | false =>
                          rw [hr] at hrt
                          have HR2 := Lib.hid hr
                          refine hrt.mono ?_
                          rintro e w4 ⟨rfl, hb4⟩
                          have HY4 := Lib.hid (Rp.row_le hb4 HYA.out)
                          have HC4 := Lib.hid (Rp.row_le hb4 HCA.out)
                          have HU4 := Lib.hid (Rp.row_le hb4 HUA.out)
                          have HV4 := Lib.hid (Rp.row_le hb4 HVA.out)
                          have HB4 : Hid (Below wx.heap.size wx w4) := Lib.hid (HBA.out.trans (hb4.mono HBA.out.size))
                          have HO4 : Hid (Below w.heap.size w w4) := Lib.hid (HBX.out.trans (HB4.out.mono HBX.out.size))
                          clear hb4 hr hrt c1
                          go_wp2_with (first | (refine wpList_load_row rfl 22 _ rfl gb rfl 22 (bysA v) (0, 0) _ HV4.out Tryz.underlying22 rfl HIV.out ?_) | (refine wpList_load_row rfl 22 _ rfl yb rfl 22 (bysA Y) (0, 0) _ HY4.out Tryz.underlying22 rfl HIY.out ?_))
                          refine (node_any v Y w4 (HS.out.below HO4.out) HVL.out HYL.out).mono ?_
                          rintro e w5 ⟨rfl, hb5⟩
                          obtain ⟨N, hN⟩ : ∃ N, N = nodeS v Y := ⟨_, rfl⟩
                          have HNL : Hid (N.length = 32) := Lib.hid (by rw [hN]; exact nodeS_length _ _)
                          have HNN := Lib.hid hN
                          have HIN := Lib.hid (info_of HNL.out)
                          rw [← hN]
                          have HV5 := Lib.hid (Rp.row_le hb5 HV4.out)
                          obtain ⟨w6, hw6⟩ : ∃ w6, w6 = w5.setRow gb (bysA N) := ⟨_, rfl⟩
                          have HW6 := Lib.hid hw6
                          have HV6 : Hid (w6.heap[gb]? = some (.cells (bysA N) 22 (0, 0))) := Lib.hid (by rw [hw6]; exact setRow_heap _ _ _ _ _ _ HV5.out)
                          have HU6 : Hid (w6.heap[ga]? = some (.cells (bysA u) 22 (0, 0))) := Lib.hid (by rw [hw6, setRow_other _ _ (fun e => HNE.out.1 e.symm)]; exact Rp.row_le hb5 HU4.out)
                          have HC6 : Hid (w6.heap[wx.heap.size]? = some (.cells #[.int .i64 (a : Int), .int .i64 (b : Int)] 95 (0, 0))) := Lib.hid (by rw [hw6, setRow_other _ _ (by have := HNE.out; omega)]; exact Rp.row_le hb5 HC4.out)
                          have HB6 : Hid (Below wx.heap.size wx w6) := Lib.hid (by rw [hw6]; exact Rg.below_setRow (HB4.out.trans (hb5.mono HB4.out.size)) (by have := HNE.out; omega) _)
                          obtain ⟨d0, d1, d2, d3⟩ := two_cells HC6.out
                          have HTC := Lib.hid (two_stored (a' := .int .i64 ((a : Int) / 2)) (b' := .int .i64 ((b : Int) / 2)) HC6.out)
                          have HRN : Hid (runS (a0 + 1) a0 b0 P2 = Rfc.runC nodeS (a / 2) (b / 2) (u, N) (T.drop (k + 1))) := Lib.hid (by rw [HRUN.out, HDK.out, Rfc.runC, if_neg HB0.out, HR2.out, cond_false, HNN.out])
                          clear hN hw6 hb5
                          go_wp2_with (refine Rg.store_row rfl 22 _ _ rfl gb rfl 22 (bysA v) (bysA N) rfl HV5.out HIN.out (by rw [bysA_size, bysA_size, HNL.out, HVL.out]) (bysA_one _) ?_; rw [← HW6.out])
                          rw [HTC.out]
                          exact ⟨⟨k + 1, a / 2, b / 2, u, N, by omega, by go_num, by omega, by omega, HUL, HNL, Lib.hid (setRow_heap _ _ _ _ _ _ HC6.out), Lib.hid (by rw [setRow_other _ _ (by have := HNE.out; omega)]; exact HU6.out), Lib.hid (by rw [setRow_other _ _ (by have := HNE.out; omega)]; exact HV6.out), Lib.hid (Rg.below_setRow HB6.out (Nat.le_refl _) _), Lib.hid (HRT0.out.below (Rg.below_setRow HB6.out (Nat.le_refl _) _)), HRN⟩, by simp [intOf]; omega⟩
                    · obtain rfl : k = T.length := by omega
                      have HDN : Hid (runS (a0 + 1) a0 b0 P2 = if b = 0 then some (u, v) else none) := Lib.hid (by rw [HRUN.out, List.drop_length]; rfl)
                      have c1 : wr.cell? ⟨wx.heap.size, 1, none⟩ = some (.int .i64 (b : Int)) := (cell_of_row _ _ _ _ _ _ HCB.out).trans rfl
                      have HRO9 := Lib.hid (Rp.row_le HB.out HOX.out)
                      have HRR9 := Lib.hid (Rp.row_le HB.out HRX.out)
                      by_cases hb0 : b = 0
                      · have hbI : ((b : Int) != 0) = false := by rw [hb0]; rfl
                        have hul := HUL.out
                        have hvl := HVL.out
                        have hol := HO.out
                        have hrl := HR.out
                        cases heq : (u == old) with
                        | true =>
                          cases heq2 : (v == root) with
                          | true =>
                            have HA : Hid (chkC ((a0 : Int) + 1) ((b0 : Int) + 1) P old root = 0) := Lib.hid (by rw [HE.out, HDN.out, if_pos hb0, if_pos (by rw [eq_of_beq heq, eq_of_beq heq2])])
                            go_wp2_with (first | (refine unguard16 (by rfl) ?_; refine wpList_load_row rfl 22 _ rfl ga rfl 22 (bysA u) (0, 0) _ HUB.out Tryz.underlying22 rfl HIU.out ?_) | (refine unguard16 (by rfl) ?_; refine wpList_load_row rfl 22 _ rfl gb rfl 22 (bysA v) (0, 0) _ HVB.out Tryz.underlying22 rfl HIV.out ?_) | (refine unguard16 (by rfl) ?_; refine wpList_load_row rfl 22 _ rfl w.heap.size rfl 22 (bysA old) (0, 0) _ HRO9.out Tryz.underlying22 rfl HIO.out ?_) | (refine unguard16 (by rfl) ?_; refine wpList_load_row rfl 22 _ rfl (w.heap.size + 1) rfl 22 (bysA root) (0, 0) _ HRR9.out Tryz.underlying22 rfl HIR.out ?_))
                            go_ret
                            exact ⟨by rw [HA.out]; rfl, HBO.out⟩
                          | false =>
                            have HA : Hid (chkC ((a0 : Int) + 1) ((b0 : Int) + 1) P old root = 17) := Lib.hid (by rw [HE.out, HDN.out, if_pos hb0, if_neg (fun h => by cases h; simp at heq2)])
                            go_wp2_with (first | (refine unguard16 (by rfl) ?_; refine wpList_load_row rfl 22 _ rfl ga rfl 22 (bysA u) (0, 0) _ HUB.out Tryz.underlying22 rfl HIU.out ?_) | (refine unguard16 (by rfl) ?_; refine wpList_load_row rfl 22 _ rfl gb rfl 22 (bysA v) (0, 0) _ HVB.out Tryz.underlying22 rfl HIV.out ?_) | (refine unguard16 (by rfl) ?_; refine wpList_load_row rfl 22 _ rfl w.heap.size rfl 22 (bysA old) (0, 0) _ HRO9.out Tryz.underlying22 rfl HIO.out ?_) | (refine unguard16 (by rfl) ?_; refine wpList_load_row rfl 22 _ rfl (w.heap.size + 1) rfl 22 (bysA root) (0, 0) _ HRR9.out Tryz.underlying22 rfl HIR.out ?_))
                            go_ret
                            exact ⟨by rw [HA.out]; rfl, HBO.out⟩
                        | false =>
                          have HA : Hid (chkC ((a0 : Int) + 1) ((b0 : Int) + 1) P old root = 17) := Lib.hid (by rw [HE.out, HDN.out, if_pos hb0, if_neg (fun h => by cases h; simp at heq)])
                          go_wp2_with (first | (refine unguard16 (by rfl) ?_; refine wpList_load_row rfl 22 _ rfl ga rfl 22 (bysA u) (0, 0) _ HUB.out Tryz.underlying22 rfl HIU.out ?_) | (refine unguard16 (by rfl) ?_; refine wpList_load_row rfl 22 _ rfl gb rfl 22 (bysA v) (0, 0) _ HVB.out Tryz.underlying22 rfl HIV.out ?_) | (refine unguard16 (by rfl) ?_; refine wpList_load_row rfl 22 _ rfl w.heap.size rfl 22 (bysA old) (0, 0) _ HRO9.out Tryz.underlying22 rfl HIO.out ?_) | (refine unguard16 (by rfl) ?_; refine wpList_load_row rfl 22 _ rfl (w.heap.size + 1) rfl 22 (bysA root) (0, 0) _ HRR9.out Tryz.underlying22 rfl HIR.out ?_))
                          go_ret
                          exact ⟨by rw [HA.out]; rfl, HBO.out⟩
                      · have hbI : ((b : Int) != 0) = true := by rw [bne_iff_ne]; omega
                        have HA : Hid (chkC ((a0 : Int) + 1) ((b0 : Int) + 1) P old root = 17) := Lib.hid (by rw [HE.out, HDN.out, if_neg hb0]; rfl)
                        clear hb0
                        go_wp2_with (first | (refine unguard16 (by rfl) ?_; refine wpList_load_row rfl 22 _ rfl ga rfl 22 (bysA u) (0, 0) _ HUB.out Tryz.underlying22 rfl HIU.out ?_) | (refine unguard16 (by rfl) ?_; refine wpList_load_row rfl 22 _ rfl gb rfl 22 (bysA v) (0, 0) _ HVB.out Tryz.underlying22 rfl HIV.out ?_) | (refine unguard16 (by rfl) ?_; refine wpList_load_row rfl 22 _ rfl w.heap.size rfl 22 (bysA old) (0, 0) _ HRO9.out Tryz.underlying22 rfl HIO.out ?_) | (refine unguard16 (by rfl) ?_; refine wpList_load_row rfl 22 _ rfl (w.heap.size + 1) rfl 22 (bysA root) (0, 0) _ HRR9.out Tryz.underlying22 rfl HIR.out ?_))
                        go_ret
                        exact ⟨by rw [HA.out]; rfl, HBO.out⟩
end Ref
end Go.Proofs.YtjkbpdobeljmjaaGreatDoor


/- The walk of rfclog.short. -/
import Derived.Test.YtkembhonfehlbaaDoorRfcC
namespace Go.Proofs.YtkembhonfehlbaaDoor
open Go.RowKit Bits Mem Sha
namespace Ref
/-- What short answers. -/
def shortA (m n : Int) (P : List (List UInt8)) (old root : List UInt8) : Int :=
  if m = 0 then (if P = [] ∧ old = sha [] ∧ (0 < n ∨ root = old) then 0 else 17) else if P = [] ∧ root = old then 0 else 17
set_option maxRecDepth 100000 in
set_option maxHeartbeats 8000000 in
theorem short_any (m n : Int) (q : Option Addr) (c : Nat) (P : List (List UInt8)) (old root : List UInt8) (w : World) (hS : Sha.Tabs w) (ho : old.length = 32) (hr : root.length = 32) :
    Calls Tryd.prog 64 #[.int .i64 m, .int .i64 n, .slice q P.length c, .agg (bysA old), .agg (bysA root)] w fun e w' => e = .returned (.int .i64 (shortA m n P old root)) ∧ Below w.heap.size w w' := by
  obtain ⟨w1, hw1⟩ : ∃ w1, w1 = (w.alloc (.cells (bysA old) 22)).alloc (.cells (bysA root) 22) := ⟨_, rfl⟩
  have hb1 : Below w.heap.size w w1 := by rw [hw1]; exact ((Below.refl _ _).alloc (Nat.le_refl _) _).alloc (by simp) _
  have hro : w1.heap[w.heap.size]? = some (.cells (bysA old) 22 (0, 0)) := by rw [hw1]; exact (Rg.heap_alloc_past _ _ _ (by simp)).trans (Rg.heap_alloc_at w _ _ rfl)
  have hrr : w1.heap[w.heap.size + 1]? = some (.cells (bysA root) 22 (0, 0)) := by rw [hw1]; exact Rg.heap_alloc_at _ _ _ (by simp)
  have HS := Lib.hid hS
  have HO := Lib.hid ho
  have HR := Lib.hid hr
  have HW1 := Lib.hid hw1
  have HB1 := Lib.hid hb1
  have HRO := Lib.hid hro
  have HRR := Lib.hid hrr
  have HIO := Lib.hid (info_of ho)
  have HIR := Lib.hid (info_of hr)
  clear hS hw1 hb1 hro hrr
  by_cases hm : m = 0
  · subst hm
    by_cases hP : P = []
    · subst hP
      obtain ⟨R, hR⟩ : ∃ R, R = sha [] := ⟨_, rfl⟩
      have hrl : R.length = 32 := by rw [hR]; exact sha_length _
      have HRE : Hid (R = treeS []) := Lib.hid (by rw [hR]; exact (Rfc.mth_nil _ _).symm)
      have HRH := Lib.hid hR
      clear hR
      go_enter Tryd.func64, Tryd.ntmps64
      go_wp2_with fail
      rw [← HW1.out]
      cases heq : (old == R) with
      | false =>
        have HE : Hid (shortA 0 n [] old root = 17) := Lib.hid (by unfold shortA; rw [if_pos rfl, if_neg (fun h => by rw [h.2.1, ← HRH.out] at heq; simp at heq)])
        refine Rc.region (w1.heap.size) 15 [Rc.F 3 (fun _ => .agg (bysA R)) (fun _ _ _ => True)] [] (by kernel_rfl) (Nat.le_refl _) (by kernel_rfl) ?_; intro p; simp only [List.take, List.drop]
        iterate 2 (refine Rc.rK rfl rfl ?_; intro K hK; apply Exists.intro; refine ⟨?_, ?_⟩; (focus (intro x hx;  go_simp; (first | (fail) | ((try go_bits); (try go_simp); (try rfl))))); go_simp; refine hK _ ?_; clear hK K)
        refine Rc.r_load rfl rfl _ _ rfl (.agg (bysA old)) (fun x hx => load_whole (Rp.row_le (Rc.undrew hx) HRO.out) HO.out) ?_; intro K hK; go_simp; refine hK _ ?_; clear hK K
        refine Rc.fK rfl rfl rfl rfl ?_ ?_
        · intro x Fs hx hle hg K hK
          have ht := total_any none 0 [] x (HS.out.below (HB1.out.trans ((Rc.undrew hx).mono HB1.out.size))) ⟨(by intro x h; cases h), Rd.nil _ _⟩ (by decide)
          rw [← HRE.out] at ht
          have HT := Lib.hid ht
          clear ht
          go_wp2_with fail
          refine HT.out.mono ?_
          rintro e x' ⟨rfl, hb⟩
          go_wp2_with fail
          exact hK Rc.dflt x' hb (fun _ _ _ _ => trivial)
        intro K hK; go_simp; refine hK _ ?_; clear hK K
        iterate 3 (refine Rc.rK rfl rfl ?_; intro K hK; apply Exists.intro; refine ⟨?_, ?_⟩; (focus (intro x hx;  go_simp; (first | (fail) | ((try go_bits); (try go_simp); (try rfl))))); go_simp; refine hK _ ?_; clear hK K)
        iterate 7 (refine Rc.rSkip rfl rfl ?_; intro K hK; go_simp; refine hK _ ?_; clear hK K)
        iterate 1 (refine Rc.rK rfl rfl ?_; intro K hK; apply Exists.intro; refine ⟨?_, ?_⟩; (focus (intro x hx;  go_simp; (first | (fail) | ((try go_bits); (try go_simp); (try rfl))))); go_simp; refine hK _ ?_; clear hK K)
        refine Rc.done fun x Fs hx hle hg => ?_
        have HX := Lib.hid (HB1.out.trans ((Rc.undrew hx).mono HB1.out.size))
        clear hx hle hg
        go_wp2_with fail
        refine NoPanic.normal ?_
        go_wp2_with fail
        go_ret
        exact ⟨by rw [HE.out]; rfl, HX.out⟩
      | true =>
        have HOS : Hid (old = sha []) := Lib.hid ((eq_of_beq heq).trans HRH.out)
        by_cases hn : 0 < n
        · have HE : Hid (shortA 0 n [] old root = 0) := Lib.hid (by unfold shortA; rw [if_pos rfl, if_pos ⟨rfl, HOS.out, .inl hn⟩])
          refine Rc.region (w1.heap.size) 15 [Rc.F 3 (fun _ => .agg (bysA R)) (fun _ _ _ => True)] [] (by kernel_rfl) (Nat.le_refl _) (by kernel_rfl) ?_; intro p; simp only [List.take, List.drop]
          iterate 2 (refine Rc.rK rfl rfl ?_; intro K hK; apply Exists.intro; refine ⟨?_, ?_⟩; (focus (intro x hx;  go_simp; (first | (fail) | ((try go_bits); (try go_simp); (try rfl))))); go_simp; refine hK _ ?_; clear hK K)
          refine Rc.r_load rfl rfl _ _ rfl (.agg (bysA old)) (fun x hx => load_whole (Rp.row_le (Rc.undrew hx) HRO.out) HO.out) ?_; intro K hK; go_simp; refine hK _ ?_; clear hK K
          refine Rc.fK rfl rfl rfl rfl ?_ ?_
          · intro x Fs hx hle hg K hK
            have ht := total_any none 0 [] x (HS.out.below (HB1.out.trans ((Rc.undrew hx).mono HB1.out.size))) ⟨(by intro x h; cases h), Rd.nil _ _⟩ (by decide)
            rw [← HRE.out] at ht
            have HT := Lib.hid ht
            clear ht
            go_wp2_with fail
            refine HT.out.mono ?_
            rintro e x' ⟨rfl, hb⟩
            go_wp2_with fail
            exact hK Rc.dflt x' hb (fun _ _ _ _ => trivial)
          intro K hK; go_simp; refine hK _ ?_; clear hK K
          iterate 3 (refine Rc.rK rfl rfl ?_; intro K hK; apply Exists.intro; refine ⟨?_, ?_⟩; (focus (intro x hx;  go_simp; (first | (fail) | ((try go_bits); (try go_simp); (try rfl))))); go_simp; refine hK _ ?_; clear hK K)
          iterate 3 (refine Rc.rK rfl rfl ?_; intro K hK; apply Exists.intro; refine ⟨?_, ?_⟩; (focus (intro x hx;  go_simp; (first | (fail) | ((try go_bits); (try go_simp); (try rfl))))); go_simp; refine hK _ ?_; clear hK K)
          iterate 3 (refine Rc.rSkip rfl rfl ?_; intro K hK; go_simp; refine hK _ ?_; clear hK K)
          iterate 2 (refine Rc.rK rfl rfl ?_; intro K hK; apply Exists.intro; refine ⟨?_, ?_⟩; (focus (intro x hx;  go_simp; (first | (fail) | ((try go_bits); (try go_simp); (try rfl))))); go_simp; refine hK _ ?_; clear hK K)
          refine Rc.done fun x Fs hx hle hg => ?_
          have HX := Lib.hid (HB1.out.trans ((Rc.undrew hx).mono HB1.out.size))
          clear hx hle hg
          go_wp2_with fail
          refine NoPanic.normal ?_
          go_wp2_with fail
          go_ret
          exact ⟨by rw [HE.out]; rfl, HX.out⟩
        · cases heq2 : (root == old) with
          | true =>
            have HE : Hid (shortA 0 n [] old root = 0) := Lib.hid (by unfold shortA; rw [if_pos rfl, if_pos ⟨rfl, HOS.out, .inr (eq_of_beq heq2)⟩])
            refine Rc.region (w1.heap.size) 15 [Rc.F 3 (fun _ => .agg (bysA R)) (fun _ _ _ => True)] [] (by kernel_rfl) (Nat.le_refl _) (by kernel_rfl) ?_; intro p; simp only [List.take, List.drop]
            iterate 2 (refine Rc.rK rfl rfl ?_; intro K hK; apply Exists.intro; refine ⟨?_, ?_⟩; (focus (intro x hx;  go_simp; (first | (fail) | ((try go_bits); (try go_simp); (try rfl))))); go_simp; refine hK _ ?_; clear hK K)
            refine Rc.r_load rfl rfl _ _ rfl (.agg (bysA old)) (fun x hx => load_whole (Rp.row_le (Rc.undrew hx) HRO.out) HO.out) ?_; intro K hK; go_simp; refine hK _ ?_; clear hK K
            refine Rc.fK rfl rfl rfl rfl ?_ ?_
            · intro x Fs hx hle hg K hK
              have ht := total_any none 0 [] x (HS.out.below (HB1.out.trans ((Rc.undrew hx).mono HB1.out.size))) ⟨(by intro x h; cases h), Rd.nil _ _⟩ (by decide)
              rw [← HRE.out] at ht
              have HT := Lib.hid ht
              clear ht
              go_wp2_with fail
              refine HT.out.mono ?_
              rintro e x' ⟨rfl, hb⟩
              go_wp2_with fail
              exact hK Rc.dflt x' hb (fun _ _ _ _ => trivial)
            intro K hK; go_simp; refine hK _ ?_; clear hK K
            iterate 3 (refine Rc.rK rfl rfl ?_; intro K hK; apply Exists.intro; refine ⟨?_, ?_⟩; (focus (intro x hx;  go_simp; (first | (fail) | ((try go_bits); (try go_simp); (try rfl))))); go_simp; refine hK _ ?_; clear hK K)
            iterate 3 (refine Rc.rK rfl rfl ?_; intro K hK; apply Exists.intro; refine ⟨?_, ?_⟩; (focus (intro x hx;  go_simp; (first | (fail) | ((try go_bits); (try go_simp); (try rfl))))); go_simp; refine hK _ ?_; clear hK K)
            refine Rc.r_load rfl rfl _ _ rfl (.agg (bysA root)) (fun x hx => load_whole (Rp.row_le (Rc.undrew hx) HRR.out) HR.out) ?_; intro K hK; go_simp; refine hK _ ?_; clear hK K
            refine Rc.r_load rfl rfl _ _ rfl (.agg (bysA old)) (fun x hx => load_whole (Rp.row_le (Rc.undrew hx) HRO.out) HO.out) ?_; intro K hK; go_simp; refine hK _ ?_; clear hK K
            iterate 3 (refine Rc.rK rfl rfl ?_; intro K hK; apply Exists.intro; refine ⟨?_, ?_⟩; (focus (intro x hx;  go_simp; (first | (fail) | ((try go_bits); (try go_simp); (try rfl))))); go_simp; refine hK _ ?_; clear hK K)
            refine Rc.done fun x Fs hx hle hg => ?_
            have HX := Lib.hid (HB1.out.trans ((Rc.undrew hx).mono HB1.out.size))
            clear hx hle hg
            go_wp2_with fail
            refine NoPanic.normal ?_
            go_wp2_with fail
            go_ret
            exact ⟨by rw [HE.out]; rfl, HX.out⟩
          | false =>
            have HE : Hid (shortA 0 n [] old root = 17) := Lib.hid (by unfold shortA; rw [if_pos rfl, if_neg (fun h => by rcases h.2.2 with h | h; exact hn h; rw [h] at heq2; simp at heq2)])
            refine Rc.region (w1.heap.size) 15 [Rc.F 3 (fun _ => .agg (bysA R)) (fun _ _ _ => True)] [] (by kernel_rfl) (Nat.le_refl _) (by kernel_rfl) ?_; intro p; simp only [List.take, List.drop]
            iterate 2 (refine Rc.rK rfl rfl ?_; intro K hK; apply Exists.intro; refine ⟨?_, ?_⟩; (focus (intro x hx;  go_simp; (first | (fail) | ((try go_bits); (try go_simp); (try rfl))))); go_simp; refine hK _ ?_; clear hK K)
            refine Rc.r_load rfl rfl _ _ rfl (.agg (bysA old)) (fun x hx => load_whole (Rp.row_le (Rc.undrew hx) HRO.out) HO.out) ?_; intro K hK; go_simp; refine hK _ ?_; clear hK K
            refine Rc.fK rfl rfl rfl rfl ?_ ?_
            · intro x Fs hx hle hg K hK
              have ht := total_any none 0 [] x (HS.out.below (HB1.out.trans ((Rc.undrew hx).mono HB1.out.size))) ⟨(by intro x h; cases h), Rd.nil _ _⟩ (by decide)
              rw [← HRE.out] at ht
              have HT := Lib.hid ht
              clear ht
              go_wp2_with fail
              refine HT.out.mono ?_
              rintro e x' ⟨rfl, hb⟩
              go_wp2_with fail
              exact hK Rc.dflt x' hb (fun _ _ _ _ => trivial)
            intro K hK; go_simp; refine hK _ ?_; clear hK K
            iterate 3 (refine Rc.rK rfl rfl ?_; intro K hK; apply Exists.intro; refine ⟨?_, ?_⟩; (focus (intro x hx;  go_simp; (first | (fail) | ((try go_bits); (try go_simp); (try rfl))))); go_simp; refine hK _ ?_; clear hK K)
            iterate 3 (refine Rc.rK rfl rfl ?_; intro K hK; apply Exists.intro; refine ⟨?_, ?_⟩; (focus (intro x hx;  go_simp; (first | (fail) | ((try go_bits); (try go_simp); (try rfl))))); go_simp; refine hK _ ?_; clear hK K)
            refine Rc.r_load rfl rfl _ _ rfl (.agg (bysA root)) (fun x hx => load_whole (Rp.row_le (Rc.undrew hx) HRR.out) HR.out) ?_; intro K hK; go_simp; refine hK _ ?_; clear hK K
            refine Rc.r_load rfl rfl _ _ rfl (.agg (bysA old)) (fun x hx => load_whole (Rp.row_le (Rc.undrew hx) HRO.out) HO.out) ?_; intro K hK; go_simp; refine hK _ ?_; clear hK K
            iterate 3 (refine Rc.rK rfl rfl ?_; intro K hK; apply Exists.intro; refine ⟨?_, ?_⟩; (focus (intro x hx;  go_simp; (first | (fail) | ((try go_bits); (try go_simp); (try rfl))))); go_simp; refine hK _ ?_; clear hK K)
            refine Rc.done fun x Fs hx hle hg => ?_
            have HX := Lib.hid (HB1.out.trans ((Rc.undrew hx).mono HB1.out.size))
            clear hx hle hg
            go_wp2_with fail
            refine NoPanic.normal ?_
            go_wp2_with fail
            go_ret
            exact ⟨by rw [HE.out]; rfl, HX.out⟩
    · have hl : P.length ≠ 0 := fun h => hP (List.eq_nil_of_length_eq_zero h)
      have hlI : ((P.length : Int) == 0) = false := by rw [beq_eq_false_iff_ne]; omega
      have HE : Hid (shortA 0 n P old root = 17) := Lib.hid (by unfold shortA; rw [if_pos rfl, if_neg (fun h => hP h.1)])
      clear hP hl
      go_enter Tryd.func64, Tryd.ntmps64
      go_wp2_with fail
      rw [← HW1.out]
      refine Rc.region (w1.heap.size) 15 [] [] (by kernel_rfl) (Nat.le_refl _) (by kernel_rfl) ?_; intro p; simp only [List.take, List.drop]
      iterate 2 (refine Rc.rK rfl rfl ?_; intro K hK; apply Exists.intro; refine ⟨?_, ?_⟩; (focus (intro x hx;  go_simp; (first | (fail) | ((try go_bits); (try go_simp); (try rfl))))); go_simp; refine hK _ ?_; clear hK K)
      iterate 3 (refine Rc.rSkip rfl rfl ?_; intro K hK; go_simp; refine hK _ ?_; clear hK K)
      iterate 2 (refine Rc.rK rfl rfl ?_; intro K hK; apply Exists.intro; refine ⟨?_, ?_⟩; (focus (intro x hx;  go_simp; (first | (fail) | ((try go_bits); (try go_simp); (try rfl))))); go_simp; refine hK _ ?_; clear hK K)
      iterate 7 (refine Rc.rSkip rfl rfl ?_; intro K hK; go_simp; refine hK _ ?_; clear hK K)
      iterate 1 (refine Rc.rK rfl rfl ?_; intro K hK; apply Exists.intro; refine ⟨?_, ?_⟩; (focus (intro x hx;  go_simp; (first | (fail) | ((try go_bits); (try go_simp); (try rfl))))); go_simp; refine hK _ ?_; clear hK K)
      refine Rc.done fun x Fs hx hle hg => ?_
      have HX := Lib.hid (HB1.out.trans ((Rc.undrew hx).mono HB1.out.size))
      clear hx hle hg
      go_wp2_with fail
      refine NoPanic.normal ?_
      go_wp2_with fail
      go_ret
      exact ⟨by rw [HE.out]; rfl, HX.out⟩
  · have hmI : (m == 0) = false := by rw [beq_eq_false_iff_ne]; exact hm
    by_cases hP : P = []
    · subst hP
      cases heq : (root == old) with
      | true =>
        have HE : Hid (shortA m n [] old root = 0) := Lib.hid (by unfold shortA; rw [if_neg hm, if_pos ⟨rfl, eq_of_beq heq⟩])
        go_enter Tryd.func64, Tryd.ntmps64
        go_wp2_with (first | (refine unguard16 (by rfl) ?_; refine wpList_load_row rfl 22 _ rfl (w.heap.size + 1) rfl 22 (bysA root) (0, 0) _ (by rw [← HW1.out]; exact HRR.out) Tryd.underlying22 rfl HIR.out ?_) | (refine unguard16 (by rfl) ?_; refine wpList_load_row rfl 22 _ rfl w.heap.size rfl 22 (bysA old) (0, 0) _ (by rw [← HW1.out]; exact HRO.out) Tryd.underlying22 rfl HIO.out ?_))
        rw [← HW1.out]
        go_ret
        exact ⟨by rw [HE.out]; rfl, HB1.out⟩
      | false =>
        have HE : Hid (shortA m n [] old root = 17) := Lib.hid (by unfold shortA; rw [if_neg hm, if_neg (fun h => by rw [h.2] at heq; simp at heq)])
        go_enter Tryd.func64, Tryd.ntmps64
        go_wp2_with (first | (refine unguard16 (by rfl) ?_; refine wpList_load_row rfl 22 _ rfl (w.heap.size + 1) rfl 22 (bysA root) (0, 0) _ (by rw [← HW1.out]; exact HRR.out) Tryd.underlying22 rfl HIR.out ?_) | (refine unguard16 (by rfl) ?_; refine wpList_load_row rfl 22 _ rfl w.heap.size rfl 22 (bysA old) (0, 0) _ (by rw [← HW1.out]; exact HRO.out) Tryd.underlying22 rfl HIO.out ?_))
        rw [← HW1.out]
        go_ret
        exact ⟨by rw [HE.out]; rfl, HB1.out⟩
    · have hl : P.length ≠ 0 := fun h => hP (List.eq_nil_of_length_eq_zero h)
      have hlI : ((P.length : Int) == 0) = false := by rw [beq_eq_false_iff_ne]; omega
      have HE : Hid (shortA m n P old root = 17) := Lib.hid (by unfold shortA; rw [if_neg hm, if_neg (fun h => hP h.1)])
      clear hP hl
      go_enter Tryd.func64, Tryd.ntmps64
      go_wp2_with fail
      rw [← HW1.out]
      go_ret
      exact ⟨by rw [HE.out]; rfl, HB1.out⟩
end Ref
end Go.Proofs.YtkembhonfehlbaaDoor

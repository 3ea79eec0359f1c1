/- A part of the proof. Plain; no condition. -/
import Derived.Test.YtjkbpdobeljmjaaGreatDoorP5
import Derived.Test.YtjkbpdobeljmjaaGreatDoorP32
import Derived.Test.YtjkbpdobeljmjaaGreatDoorP12
/- The plain law of the log, second part: what the climber's loops compute. No program in sight. -/
namespace Go.Proofs.YtjkbpdobeljmjaaGreatDoor
namespace Rfc
section
variable {α : Type} (nd : α → α → α)
theorem next_left (a b : Nat) (h : right a b = false) : next a b = (a / 2, b / 2) := by
  unfold right at h
  unfold next
  rw [if_neg]
  rintro ⟨_, h2⟩
  simp [h2] at h
theorem climb_len (a b : Nat) : (climb a b).length = 0 ↔ b = 0 := by
  constructor
  · intro h
    by_cases hb : b = 0
    · exact hb
    · rw [climb_next a b hb] at h; simp at h
  · rintro rfl
    rw [climb_zero]; rfl
def runC : Nat → Nat → α × α → List α → Option (α × α)
  | _, b, s, [] => if b = 0 then some s else none
  | a, b, s, x :: ps => if b = 0 then none else bif right a b then runC (next a b).1 (next a b).2 (nd x s.1, nd x s.2) ps else runC (a / 2) (b / 2) (s.1, nd s.2 x) ps
theorem runC_eq (ps : List α) : ∀ (a b : Nat) (s : α × α), runC nd a b s ps = if ps.length = (climb a b).length then some (rises nd (climb a b) ps s) else none := by
  induction ps with
  | nil =>
    intro a b s
    by_cases hb : b = 0
    · subst hb
      rw [climb_zero, runC, if_pos rfl]
      exact (if_pos rfl).symm
    · rw [runC, if_neg hb, if_neg]
      intro h
      exact hb ((climb_len a b).1 h.symm)
  | cons x ps ih =>
    intro a b s
    rw [runC]
    by_cases hb : b = 0
    · subst hb
      rw [if_pos rfl, climb_zero, if_neg (by simp)]
    · rw [if_neg hb, climb_next a b hb]
      cases hr : right a b with
      | true =>
        rw [cond_true, ih]
        simp only [List.length_cons, Nat.add_right_cancel_iff]
        rfl
      | false =>
        have hn := next_left a b hr
        rw [cond_false, ih, hn]
        simp only [List.length_cons, Nat.add_right_cancel_iff]
        rfl
theorem cons_same (f m n : Nat) (hf : m ≤ f + 1) (h1 : 1 ≤ m) (hm : m < n) (old root bad : α) (p : List α) :
    (∃ x q, start (pow2 m) old p = x :: q ∧ runC nd (ones f (m - 1) (n - 1)).1 (ones f (m - 1) (n - 1)).2 (x, x) q = some (old, root)) ↔
      (both nd m n p true old bad).2.2 = true ∧ (both nd m n p true old bad).1 = old ∧ (both nd m n p true old bad).2.1 = root := by
  obtain ⟨h2, h3⟩ := both_ok nd n m p true old bad
  have hc := ones_cdr f m n hf h1 hm
  have hp := cdr_false m n hm h1
  rw [Bool.true_and, hp] at h2 h3
  rw [h2, decide_eq_true_eq]
  constructor
  · rintro ⟨x, q, hs, hr⟩
    rw [runC_eq, ← hc, List.length_reverse] at hr
    by_cases hl : q.length = (cdr m n).length
    · rw [if_pos hl] at hr
      have h4 := h3 x q hs hl
      rw [← h4] at hr
      have h5 := Option.some.inj hr
      refine ⟨by rw [hs]; simp [hl], congrArg (·.1) h5, congrArg (·.2) h5⟩
    · rw [if_neg hl] at hr; cases hr
  · rintro ⟨hl, h5, h6⟩
    cases hs : start (pow2 m) old p with
    | nil => rw [hs] at hl; simp at hl
    | cons x q =>
      rw [hs] at hl
      have hl' : q.length = (cdr m n).length := by simpa using hl
      refine ⟨x, q, rfl, ?_⟩
      rw [runC_eq, ← hc, List.length_reverse, if_pos hl', ← h3 x q hs hl', h5, h6]
end
end Rfc
end Go.Proofs.YtjkbpdobeljmjaaGreatDoor

/- The walk of rfclog.CheckInclusion. -/
namespace Go.Proofs.YtjkbpdobeljmjaaGreatDoor
open Go.RowKit Bits Mem Sha
namespace Ref
theorem right_up {a b : Nat} (h : Rfc.right a b = true) (hb : b ≠ 0) : (a % 2 = 1 ∨ a = b) ∧ a ≠ 0 := by
  unfold Rfc.right at h
  simp at h
  omega
theorem info_of {M : List UInt8} (h : M.length = 32) : (Tryz.prog.info? 22).map (·.size) = some (bysA M).size := by rw [bysA_size, h]; exact info32
end Ref
end Go.Proofs.YtjkbpdobeljmjaaGreatDoor

/- The walk of rfclog.short. -/
namespace Go.Proofs.YtjkbpdobeljmjaaGreatDoor
open Go.RowKit Bits Mem Sha
namespace Ref
def shortA (m n : Int) (P : List (List UInt8)) (old root : List UInt8) : Int :=
  if m = 0 then (if P = [] ∧ old = sha [] ∧ (0 < n ∨ root = old) then 0 else 17) else if P = [] ∧ root = old then 0 else 17
set_option maxRecDepth 100000 in
set_option maxHeartbeats 8000000 in
theorem short_any (m n : Int) (q : Option Addr) (c : Nat) (P : List (List UInt8)) (old root : List UInt8) (w : World) (hS : Sha.Tabs w) (ho : old.length = 32) (hr : root.length = 32) :
    Calls Tryz.prog 22 #[.int .i64 m, .int .i64 n, .slice q P.length c, .agg (bysA old), .agg (bysA root)] w fun e w' => e = .returned (.int .i64 (shortA m n P old root)) ∧ Below w.heap.size w w' := by
  obtain ⟨w1, hw1⟩ : ∃ w1, w1 = (w.alloc (.cells (bysA old) 22)).alloc (.cells (bysA root) 22) := ⟨_, rfl⟩
  have hb1 : Below w.heap.size w w1 := by rw [hw1]; exact ((Below.refl _ _).alloc (Nat.le_refl _) _).alloc (by simp) _
  have hro : w1.heap[w.heap.size]? = some (.cells (bysA old) 22 (0, 0)) := by rw [hw1]; exact (Rg.heap_alloc_past _ _ _ (by simp)).trans (Rg.heap_alloc_at w _ _ rfl)
  have hrr : w1.heap[w.heap.size + 1]? = some (.cells (bysA root) 22 (0, 0)) := by rw [hw1]; exact Rg.heap_alloc_at _ _ _ (by simp)
  have HS := Lib.hid hS
  have HO := Lib.hid ho
  have HR := Lib.hid hr
  have HW1 := Lib.hid hw1
  have HB1 := Lib.hid hb1
  have HRO := Lib.hid hro
  have HRR := Lib.hid hrr
  have HIO := Lib.hid (info_of ho)
  have HIR := Lib.hid (info_of hr)
  clear hS hw1 hb1 hro hrr
  by_cases hm : m = 0
  · subst hm
    by_cases hP : P = []
    · subst hP
      obtain ⟨R, hR⟩ : ∃ R, R = sha [] := ⟨_, rfl⟩
      have hrl : R.length = 32 := by rw [hR]; exact sha_length _
      have HRE : Hid (R = treeS []) := Lib.hid (by rw [hR]; exact (Rfc.mth_nil _ _).symm)
      have HRH := Lib.hid hR
      clear hR
      go_enter Tryz.func22, Tryz.ntmps22
      go_wp2_with fail
      rw [← HW1.out]
      cases heq : (old == R) with
      | false =>
        have HE : Hid (shortA 0 n [] old root = 17) := Lib.hid (by unfold shortA; rw [if_pos rfl, if_neg (fun h => by rw [h.2.1, ← HRH.out] at heq; simp at heq)])
        refine Rc.region (w1.heap.size) 15 [Rc.F 3 (fun _ => .agg (bysA R)) (fun _ _ _ => True)] [] (by kernel_rfl) (Nat.le_refl _) (by kernel_rfl) ?_; intro p; simp only [List.take, List.drop]
        iterate 2 (refine Rc.rK rfl rfl ?_; intro K hK; apply Exists.intro; refine ⟨?_, ?_⟩; (focus (intro x hx;  go_simp; (first | (fail) | ((try go_bits); (try go_simp); (try rfl))))); go_simp; refine hK _ ?_; clear hK K)
        refine Rc.r_load rfl rfl _ _ rfl (.agg (bysA old)) (fun x hx => load_whole (Rp.row_le (Rc.undrew hx) HRO.out) HO.out) ?_; intro K hK; go_simp; refine hK _ ?_; clear hK K
        refine Rc.fK rfl rfl rfl rfl ?_ ?_
        · intro x Fs hx hle hg K hK
          have ht := total_any none 0 [] x (HS.out.below (HB1.out.trans ((Rc.undrew hx).mono HB1.out.size))) ⟨(by intro x h; cases h), Rd.nil _ _⟩ (by decide)
          rw [← HRE.out] at ht
          have HT := Lib.hid ht
          clear ht
          go_wp2_with fail
          refine HT.out.mono ?_
          rintro e x' ⟨rfl, hb⟩
          go_wp2_with fail
          exact hK Rc.dflt x' hb (fun _ _ _ _ => trivial)
        intro K hK; go_simp; refine hK _ ?_; clear hK K
        iterate 3 (refine Rc.rK rfl rfl ?_; intro K hK; apply Exists.intro; refine ⟨?_, ?_⟩; (focus (intro x hx;  go_simp; (first | (fail) | ((try go_bits); (try go_simp); (try rfl))))); go_simp; refine hK _ ?_; clear hK K)
        iterate 7 (refine Rc.rSkip rfl rfl ?_; intro K hK; go_simp; refine hK _ ?_; clear hK K)
        iterate 1 (refine Rc.rK rfl rfl ?_; intro K hK; apply Exists.intro; refine ⟨?_, ?_⟩; (focus (intro x hx;  go_simp; (first | (fail) | ((try go_bits); (try go_simp); (try rfl))))); go_simp; refine hK _ ?_; clear hK K)
        refine Rc.done fun x Fs hx hle hg => ?_
        have HX := Lib.hid (HB1.out.trans ((Rc.undrew hx).mono HB1.out.size))
        clear hx hle hg
        go_wp2_with fail
        refine NoPanic.normal ?_
        go_wp2_with fail
        go_ret
        exact ⟨by rw [HE.out]; rfl, HX.out⟩
      | true =>
        have HOS : Hid (old = sha []) := Lib.hid ((eq_of_beq heq).trans HRH.out)
        by_cases hn : 0 < n
        · have HE : Hid (shortA 0 n [] old root = 0) := Lib.hid (by unfold shortA; rw [if_pos rfl, if_pos ⟨rfl, HOS.out, .inl hn⟩])
          refine Rc.region (w1.heap.size) 15 [Rc.F 3 (fun _ => .agg (bysA R)) (fun _ _ _ => True)] [] (by kernel_rfl) (Nat.le_refl _) (by kernel_rfl) ?_; intro p; simp only [List.take, List.drop]
          iterate 2 (refine Rc.rK rfl rfl ?_; intro K hK; apply Exists.intro; refine ⟨?_, ?_⟩; (focus (intro x hx;  go_simp; (first | (fail) | ((try go_bits); (try go_simp); (try rfl))))); go_simp; refine hK _ ?_; clear hK K)
          refine Rc.r_load rfl rfl _ _ rfl (.agg (bysA old)) (fun x hx => load_whole (Rp.row_le (Rc.undrew hx) HRO.out) HO.out) ?_; intro K hK; go_simp; refine hK _ ?_; clear hK K
          refine Rc.fK rfl rfl rfl rfl ?_ ?_
          · intro x Fs hx hle hg K hK
            have ht := total_any none 0 [] x (HS.out.below (HB1.out.trans ((Rc.undrew hx).mono HB1.out.size))) ⟨(by intro x h; cases h), Rd.nil _ _⟩ (by decide)
            rw [← HRE.out] at ht
            have HT := Lib.hid ht
            clear ht
            go_wp2_with fail
            refine HT.out.mono ?_
            rintro e x' ⟨rfl, hb⟩
            go_wp2_with fail
            exact hK Rc.dflt x' hb (fun _ _ _ _ => trivial)
          intro K hK; go_simp; refine hK _ ?_; clear hK K
          iterate 3 (refine Rc.rK rfl rfl ?_; intro K hK; apply Exists.intro; refine ⟨?_, ?_⟩; (focus (intro x hx;  go_simp; (first | (fail) | ((try go_bits); (try go_simp); (try rfl))))); go_simp; refine hK _ ?_; clear hK K)
          iterate 3 (refine Rc.rK rfl rfl ?_; intro K hK; apply Exists.intro; refine ⟨?_, ?_⟩; (focus (intro x hx;  go_simp; (first | (fail) | ((try go_bits); (try go_simp); (try rfl))))); go_simp; refine hK _ ?_; clear hK K)
          iterate 3 (refine Rc.rSkip rfl rfl ?_; intro K hK; go_simp; refine hK _ ?_; clear hK K)
          iterate 2 (refine Rc.rK rfl rfl ?_; intro K hK; apply Exists.intro; refine ⟨?_, ?_⟩; (focus (intro x hx;  go_simp; (first | (fail) | ((try go_bits); (try go_simp); (try rfl))))); go_simp; refine hK _ ?_; clear hK K)
          refine Rc.done fun x Fs hx hle hg => ?_
          have HX := Lib.hid (HB1.out.trans ((Rc.undrew hx).mono HB1.out.size))
          clear hx hle hg
          go_wp2_with fail
          refine NoPanic.normal ?_
          go_wp2_with fail
          go_ret
          exact ⟨by rw [HE.out]; rfl, HX.out⟩
        · cases heq2 : (root == old) with
          | true =>
            have HE : Hid (shortA 0 n [] old root = 0) := Lib.hid (by unfold shortA; rw [if_pos rfl, if_pos ⟨rfl, HOS.out, .inr (eq_of_beq heq2)⟩])
            refine Rc.region (w1.heap.size) 15 [Rc.F 3 (fun _ => .agg (bysA R)) (fun _ _ _ => True)] [] (by kernel_rfl) (Nat.le_refl _) (by kernel_rfl) ?_; intro p; simp only [List.take, List.drop]
            iterate 2 (refine Rc.rK rfl rfl ?_; intro K hK; apply Exists.intro; refine ⟨?_, ?_⟩; (focus (intro x hx;  go_simp; (first | (fail) | ((try go_bits); (try go_simp); (try rfl))))); go_simp; refine hK _ ?_; clear hK K)
            refine Rc.r_load rfl rfl _ _ rfl (.agg (bysA old)) (fun x hx => load_whole (Rp.row_le (Rc.undrew hx) HRO.out) HO.out) ?_; intro K hK; go_simp; refine hK _ ?_; clear hK K
            refine Rc.fK rfl rfl rfl rfl ?_ ?_
            · intro x Fs hx hle hg K hK
              have ht := total_any none 0 [] x (HS.out.below (HB1.out.trans ((Rc.undrew hx).mono HB1.out.size))) ⟨(by intro x h; cases h), Rd.nil _ _⟩ (by decide)
              rw [← HRE.out] at ht
              have HT := Lib.hid ht
              clear ht
              go_wp2_with fail
              refine HT.out.mono ?_
              rintro e x' ⟨rfl, hb⟩
              go_wp2_with fail
              exact hK Rc.dflt x' hb (fun _ _ _ _ => trivial)
            intro K hK; go_simp; refine hK _ ?_; clear hK K
            iterate 3 (refine Rc.rK rfl rfl ?_; intro K hK; apply Exists.intro; refine ⟨?_, ?_⟩; (focus (intro x hx;  go_simp; (first | (fail) | ((try go_bits); (try go_simp); (try rfl))))); go_simp; refine hK _ ?_; clear hK K)
            iterate 3 (refine Rc.rK rfl rfl ?_; intro K hK; apply Exists.intro; refine ⟨?_, ?_⟩; (focus (intro x hx;  go_simp; (first | (fail) | ((try go_bits); (try go_simp); (try rfl))))); go_simp; refine hK _ ?_; clear hK K)
            refine Rc.r_load rfl rfl _ _ rfl (.agg (bysA root)) (fun x hx => load_whole (Rp.row_le (Rc.undrew hx) HRR.out) HR.out) ?_; intro K hK; go_simp; refine hK _ ?_; clear hK K
            refine Rc.r_load rfl rfl _ _ rfl (.agg (bysA old)) (fun x hx => load_whole (Rp.row_le (Rc.undrew hx) HRO.out) HO.out) ?_; intro K hK; go_simp; refine hK _ ?_; clear hK K
            iterate 3 (refine Rc.rK rfl rfl ?_; intro K hK; apply Exists.intro; refine ⟨?_, ?_⟩; (focus (intro x hx;  go_simp; (first | (fail) | ((try go_bits); (try go_simp); (try rfl))))); go_simp; refine hK _ ?_; clear hK K)
            refine Rc.done fun x Fs hx hle hg => ?_
            have HX := Lib.hid (HB1.out.trans ((Rc.undrew hx).mono HB1.out.size))
            clear hx hle hg
            go_wp2_with fail
            refine NoPanic.normal ?_
            go_wp2_with fail
            go_ret
            exact ⟨by rw [HE.out]; rfl, HX.out⟩
          | false =>
            have HE : Hid (shortA 0 n [] old root = 17) := Lib.hid (by unfold shortA; rw [if_pos rfl, if_neg (fun h => by rcases h.2.2 with h | h; exact hn h; rw [h] at heq2; simp at heq2)])
            refine Rc.region (w1.heap.size) 15 [Rc.F 3 (fun _ => .agg (bysA R)) (fun _ _ _ => True)] [] (by kernel_rfl) (Nat.le_refl _) (by kernel_rfl) ?_; intro p; simp only [List.take, List.drop]
            iterate 2 (refine Rc.rK rfl rfl ?_; intro K hK; apply Exists.intro; refine ⟨?_, ?_⟩; (focus (intro x hx;  go_simp; (first | (fail) | ((try go_bits); (try go_simp); (try rfl))))); go_simp; refine hK _ ?_; clear hK K)
            refine Rc.r_load rfl rfl _ _ rfl (.agg (bysA old)) (fun x hx => load_whole (Rp.row_le (Rc.undrew hx) HRO.out) HO.out) ?_; intro K hK; go_simp; refine hK _ ?_; clear hK K
            refine Rc.fK rfl rfl rfl rfl ?_ ?_
            · intro x Fs hx hle hg K hK
              have ht := total_any none 0 [] x (HS.out.below (HB1.out.trans ((Rc.undrew hx).mono HB1.out.size))) ⟨(by intro x h; cases h), Rd.nil _ _⟩ (by decide)
              rw [← HRE.out] at ht
              have HT := Lib.hid ht
              clear ht
              go_wp2_with fail
              refine HT.out.mono ?_
              rintro e x' ⟨rfl, hb⟩
              go_wp2_with fail
              exact hK Rc.dflt x' hb (fun _ _ _ _ => trivial)
            intro K hK; go_simp; refine hK _ ?_; clear hK K
            iterate 3 (refine Rc.rK rfl rfl ?_; intro K hK; apply Exists.intro; refine ⟨?_, ?_⟩; (focus (intro x hx;  go_simp; (first | (fail) | ((try go_bits); (try go_simp); (try rfl))))); go_simp; refine hK _ ?_; clear hK K)
            iterate 3 (refine Rc.rK rfl rfl ?_; intro K hK; apply Exists.intro; refine ⟨?_, ?_⟩; (focus (intro x hx;  go_simp; (first | (fail) | ((try go_bits); (try go_simp); (try rfl))))); go_simp; refine hK _ ?_; clear hK K)
            refine Rc.r_load rfl rfl _ _ rfl (.agg (bysA root)) (fun x hx => load_whole (Rp.row_le (Rc.undrew hx) HRR.out) HR.out) ?_; intro K hK; go_simp; refine hK _ ?_; clear hK K
            refine Rc.r_load rfl rfl _ _ rfl (.agg (bysA old)) (fun x hx => load_whole (Rp.row_le (Rc.undrew hx) HRO.out) HO.out) ?_; intro K hK; go_simp; refine hK _ ?_; clear hK K
            iterate 3 (refine Rc.rK rfl rfl ?_; intro K hK; apply Exists.intro; refine ⟨?_, ?_⟩; (focus (intro x hx;  go_simp; (first | (fail) | ((try go_bits); (try go_simp); (try rfl))))); go_simp; refine hK _ ?_; clear hK K)
            refine Rc.done fun x Fs hx hle hg => ?_
            have HX := Lib.hid (HB1.out.trans ((Rc.undrew hx).mono HB1.out.size))
            clear hx hle hg
            go_wp2_with fail
            refine NoPanic.normal ?_
            go_wp2_with fail
            go_ret
            exact ⟨by rw [HE.out]; rfl, HX.out⟩
    · have hl : P.length ≠ 0 := fun h => hP (List.eq_nil_of_length_eq_zero h)
      have hlI : ((P.length : Int) == 0) = false := by rw [beq_eq_false_iff_ne]; omega
      have HE : Hid (shortA 0 n P old root = 17) := Lib.hid (by unfold shortA; rw [if_pos rfl, if_neg (fun h => hP h.1)])
      clear hP hl
      go_enter Tryz.func22, Tryz.ntmps22
      go_wp2_with fail
      rw [← HW1.out]
      refine Rc.region (w1.heap.size) 15 [] [] (by kernel_rfl) (Nat.le_refl _) (by kernel_rfl) ?_; intro p; simp only [List.take, List.drop]
      iterate 2 (refine Rc.rK rfl rfl ?_; intro K hK; apply Exists.intro; refine ⟨?_, ?_⟩; (focus (intro x hx;  go_simp; (first | (fail) | ((try go_bits); (try go_simp); (try rfl))))); go_simp; refine hK _ ?_; clear hK K)
      iterate 3 (refine Rc.rSkip rfl rfl ?_; intro K hK; go_simp; refine hK _ ?_; clear hK K)
      iterate 2 (refine Rc.rK rfl rfl ?_; intro K hK; apply Exists.intro; refine ⟨?_, ?_⟩; (focus (intro x hx;  go_simp; (first | (fail) | ((try go_bits); (try go_simp); (try rfl))))); go_simp; refine hK _ ?_; clear hK K)
      iterate 7 (refine Rc.rSkip rfl rfl ?_; intro K hK; go_simp; refine hK _ ?_; clear hK K)
      iterate 1 (refine Rc.rK rfl rfl ?_; intro K hK; apply Exists.intro; refine ⟨?_, ?_⟩; (focus (intro x hx;  go_simp; (first | (fail) | ((try go_bits); (try go_simp); (try rfl))))); go_simp; refine hK _ ?_; clear hK K)
      refine Rc.done fun x Fs hx hle hg => ?_
      have HX := Lib.hid (HB1.out.trans ((Rc.undrew hx).mono HB1.out.size))
      clear hx hle hg
      go_wp2_with fail
      refine NoPanic.normal ?_
      go_wp2_with fail
      go_ret
      exact ⟨by rw [HE.out]; rfl, HX.out⟩
  · have hmI : (m == 0) = false := by rw [beq_eq_false_iff_ne]; exact hm
    by_cases hP : P = []
    · subst hP
      cases heq : (root == old) with
      | true =>
        have HE : Hid (shortA m n [] old root = 0) := Lib.hid (by unfold shortA; rw [if_neg hm, if_pos ⟨rfl, eq_of_beq heq⟩])
        go_enter Tryz.func22, Tryz.ntmps22
        go_wp2_with (first | (refine unguard16 (by rfl) ?_; refine wpList_load_row rfl 22 _ rfl (w.heap.size + 1) rfl 22 (bysA root) (0, 0) _ (by rw [← HW1.out]; exact HRR.out) Tryz.underlying22 rfl HIR.out ?_) | (refine unguard16 (by rfl) ?_; refine wpList_load_row rfl 22 _ rfl w.heap.size rfl 22 (bysA old) (0, 0) _ (by rw [← HW1.out]; exact HRO.out) Tryz.underlying22 rfl HIO.out ?_))
        rw [← HW1.out]
        go_ret
        exact ⟨by rw [HE.out]; rfl, HB1.out⟩
      | false =>
        have HE : Hid (shortA m n [] old root = 17) := Lib.hid (by unfold shortA; rw [if_neg hm, if_neg (fun h => by rw [h.2] at heq; simp at heq)])
        go_enter Tryz.func22, Tryz.ntmps22
        go_wp2_with (first | (refine unguard16 (by rfl) ?_; refine wpList_load_row rfl 22 _ rfl (w.heap.size + 1) rfl 22 (bysA root) (0, 0) _ (by rw [← HW1.out]; exact HRR.out) Tryz.underlying22 rfl HIR.out ?_) | (refine unguard16 (by rfl) ?_; refine wpList_load_row rfl 22 _ rfl w.heap.size rfl 22 (bysA old) (0, 0) _ (by rw [← HW1.out]; exact HRO.out) Tryz.underlying22 rfl HIO.out ?_))
        rw [← HW1.out]
        go_ret
        exact ⟨by rw [HE.out]; rfl, HB1.out⟩
    · have hl : P.length ≠ 0 := fun h => hP (List.eq_nil_of_length_eq_zero h)
      have hlI : ((P.length : Int) == 0) = false := by rw [beq_eq_false_iff_ne]; omega
      have HE : Hid (shortA m n P old root = 17) := Lib.hid (by unfold shortA; rw [if_neg hm, if_neg (fun h => hP h.1)])
      clear hP hl
      go_enter Tryz.func22, Tryz.ntmps22
      go_wp2_with fail
      rw [← HW1.out]
      go_ret
      exact ⟨by rw [HE.out]; rfl, HB1.out⟩
end Ref
end Go.Proofs.YtjkbpdobeljmjaaGreatDoor


/- The plain law of the log, second part: what the climber's loops compute. No program in sight. -/
import Derived.Test.YtkembhonfehlbaaDoorRfcP
namespace Go.Proofs.YtkembhonfehlbaaDoor
namespace Rfc
section
variable {α : Type} (nd : α → α → α)
theorem next_left (a b : Nat) (h : right a b = false) : next a b = (a / 2, b / 2) := by
  unfold right at h
  unfold next
  rw [if_neg]
  rintro ⟨_, h2⟩
  simp [h2] at h
/-- CheckInclusion's loop: none, where it tells a fault. -/
def runI : Nat → Nat → α → List α → Option α
  | _, b, s, [] => if b = 0 then some s else none
  | a, b, s, x :: ps => if b = 0 then none else bif right a b then runI (next a b).1 (next a b).2 (nd x s) ps else runI (a / 2) (b / 2) (nd s x) ps
theorem climb_len (a b : Nat) : (climb a b).length = 0 ↔ b = 0 := by
  constructor
  · intro h
    by_cases hb : b = 0
    · exact hb
    · rw [climb_next a b hb] at h; simp at h
  · rintro rfl
    rw [climb_zero]; rfl
theorem runI_eq (ps : List α) : ∀ (a b : Nat) (s : α), runI nd a b s ps = if ps.length = (climb a b).length then some (rise nd (climb a b) ps s) else none := by
  induction ps with
  | nil =>
    intro a b s
    by_cases hb : b = 0
    · subst hb
      rw [climb_zero, runI, if_pos rfl]
      exact (if_pos rfl).symm
    · rw [runI, if_neg hb, if_neg]
      intro h
      exact hb ((climb_len a b).1 h.symm)
  | cons x ps ih =>
    intro a b s
    rw [runI]
    by_cases hb : b = 0
    · subst hb
      rw [if_pos rfl, climb_zero, if_neg (by simp)]
    · rw [if_neg hb, climb_next a b hb]
      cases hr : right a b with
      | true =>
        rw [cond_true, ih]
        simp only [List.length_cons, Nat.add_right_cancel_iff]
        rfl
      | false =>
        have hn := next_left a b hr
        rw [cond_false, ih, hn]
        simp only [List.length_cons, Nat.add_right_cancel_iff]
        rfl
/-- CheckConsistency's loop. -/
def runC : Nat → Nat → α × α → List α → Option (α × α)
  | _, b, s, [] => if b = 0 then some s else none
  | a, b, s, x :: ps => if b = 0 then none else bif right a b then runC (next a b).1 (next a b).2 (nd x s.1, nd x s.2) ps else runC (a / 2) (b / 2) (s.1, nd s.2 x) ps
theorem runC_eq (ps : List α) : ∀ (a b : Nat) (s : α × α), runC nd a b s ps = if ps.length = (climb a b).length then some (rises nd (climb a b) ps s) else none := by
  induction ps with
  | nil =>
    intro a b s
    by_cases hb : b = 0
    · subst hb
      rw [climb_zero, runC, if_pos rfl]
      exact (if_pos rfl).symm
    · rw [runC, if_neg hb, if_neg]
      intro h
      exact hb ((climb_len a b).1 h.symm)
  | cons x ps ih =>
    intro a b s
    rw [runC]
    by_cases hb : b = 0
    · subst hb
      rw [if_pos rfl, climb_zero, if_neg (by simp)]
    · rw [if_neg hb, climb_next a b hb]
      cases hr : right a b with
      | true =>
        rw [cond_true, ih]
        simp only [List.length_cons, Nat.add_right_cancel_iff]
        rfl
      | false =>
        have hn := next_left a b hr
        rw [cond_false, ih, hn]
        simp only [List.length_cons, Nat.add_right_cancel_iff]
        rfl
/-- What is told of an inclusion is what the document tells. -/
theorem incl_same (i n : Nat) (hi : i < n) (s bad root : α) (p : List α) : runI nd i (n - 1) s p = some root ↔ (up nd s i n p bad).2 = true ∧ (up nd s i n p bad).1 = root := by
  obtain ⟨h1, h2⟩ := up_ok nd n s i p bad
  have hc : climb i (n - 1) = (dirs i n).reverse := by rw [climb_dirs _ _ (by omega), show n - 1 + 1 = n by omega]
  rw [runI_eq, hc, List.length_reverse, h1, decide_eq_true_eq]
  by_cases h : p.length = (dirs i n).length
  · rw [if_pos h, h2 h]
    simp [h]
  · rw [if_neg h]
    simp [h]
/-- What is told of a beginning is what the document tells. -/
theorem cons_same (f m n : Nat) (hf : m ≤ f + 1) (h1 : 1 ≤ m) (hm : m < n) (old root bad : α) (p : List α) :
    (∃ x q, start (pow2 m) old p = x :: q ∧ runC nd (ones f (m - 1) (n - 1)).1 (ones f (m - 1) (n - 1)).2 (x, x) q = some (old, root)) ↔
      (both nd m n p true old bad).2.2 = true ∧ (both nd m n p true old bad).1 = old ∧ (both nd m n p true old bad).2.1 = root := by
  obtain ⟨h2, h3⟩ := both_ok nd n m p true old bad
  have hc := ones_cdr f m n hf h1 hm
  have hp := cdr_false m n hm h1
  rw [Bool.true_and, hp] at h2 h3
  rw [h2, decide_eq_true_eq]
  constructor
  · rintro ⟨x, q, hs, hr⟩
    rw [runC_eq, ← hc, List.length_reverse] at hr
    by_cases hl : q.length = (cdr m n).length
    · rw [if_pos hl] at hr
      have h4 := h3 x q hs hl
      rw [← h4] at hr
      have h5 := Option.some.inj hr
      refine ⟨by rw [hs]; simp [hl], congrArg (·.1) h5, congrArg (·.2) h5⟩
    · rw [if_neg hl] at hr; cases hr
  · rintro ⟨hl, h5, h6⟩
    cases hs : start (pow2 m) old p with
    | nil => rw [hs] at hl; simp at hl
    | cons x q =>
      rw [hs] at hl
      have hl' : q.length = (cdr m n).length := by simpa using hl
      refine ⟨x, q, rfl, ?_⟩
      rw [runC_eq, ← hc, List.length_reverse, if_pos hl', ← h3 x q hs hl', h5, h6]
end
end Rfc
end Go.Proofs.YtkembhonfehlbaaDoor

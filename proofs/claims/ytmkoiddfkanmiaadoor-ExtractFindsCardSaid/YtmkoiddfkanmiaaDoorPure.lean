/- A drawn region: operations that look at no memory are taken first, the rest stand in one order and may do anything. -/
import Derived.Test.YtmkoiddfkanmiaaDoorPlan
namespace Go.Proofs.YtmkoiddfkanmiaaDoor
open Go.RowKit Mem
namespace Rp
section
variable {P : Program} {md : Region.Mode} {Q : Exit → Act → World → Prop} {ops : Array Oper}
def seqL (md : Region.Mode) (ops : Array Oper) : List Nat → Array Bool → Bool
  | [], listed => (Region.ready md ops listed).isEmpty
  | i :: r, listed => decide (Region.ready md ops listed = [i]) && seqL md ops r (listed.setIfInBounds i true)
def pickN (l : List Oper) : List Nat → List Oper
  | [] => []
  | i :: r => match nth l i with
    | some o => o :: pickN l r
    | none => []
theorem any_seqL {l : List Oper} : ∀ (q : List Nat) (listed : Array Bool) (a : Act) (w : World), seqL md l.toArray q listed = true → wpList P l.toArray Q (pickN l q) a w → wpAny P md l.toArray Q q.length listed a w
  | [], _, _, _, hB, h => ⟨by simpa [seqL] using hB, h⟩
  | i :: r, listed, a, w, hB, h => by
    simp only [seqL, Bool.and_eq_true, decide_eq_true_eq] at hB
    have hi : i ∈ Region.ready md l.toArray listed := by rw [hB.1]; simp
    obtain ⟨_, o, ho, _⟩ := mem_ready.1 hi
    have hn : nth l i = some o := by rw [nth_eq]; simpa using ho
    have hp : pickN l (i :: r) = o :: pickN l r := by simp only [pickN, hn]
    rw [hp] at h
    refine ⟨fun h1 => (by rw [hB.1] at h1; cases h1), fun k hk => ?_⟩
    rw [hB.1] at hk
    have hik : k = i := by simpa using hk
    subst hik
    have hw : wpOp P l.toArray Q k (wpList P l.toArray Q (pickN l r)) a w := by unfold Go.wpOp; simp only [ho]; exact h
    exact wpOp_mono (fun a' w' h' => any_seqL r _ a' w' hB.2 h') hw
def pureB (md : Region.Mode) (ops : Array Oper) (q : List Nat) : List Nat → Array Bool → Bool
  | [], listed => seqL md ops q listed
  | i :: r, listed => (Region.ready md ops listed).contains i && Region.free md ops listed i && pureB md ops q r (listed.setIfInBounds i true)
def wpPure (P : Program) (ops : Array Oper) (Q : Exit → Act → World → Prop) (tail : List Oper) : List Oper → Act → World → Prop
  | [], a, w => wpList P ops Q tail a w
  | o :: r, a, w => (Region.wanted o (yielded ops a.tmps) = true ∧ ∃ v, (∀ x, (execOp a.eval o).run P x = .ok (.value v) x) ∧ wpPure P ops Q tail r (a.put o.dst v) w) ∨
      (Region.wanted o (yielded ops a.tmps) = false ∧ wpPure P ops Q tail r (a.put o.dst undef) w)
theorem any_pure {l : List Oper} (hQ : ∀ c a w, ¬ Q (.panic c) a w) (hsel : Region.noSelect l.toArray = true) (q : List Nat) : ∀ (p : List Nat) (listed : Array Bool) (a : Act) (w : World), pureB md l.toArray q p listed = true →
    wpPure P l.toArray Q (pickN l q) (pickN l p) a w → wpAny P md l.toArray Q (p.length + q.length) listed a w
  | [], listed, a, w, hB, h => by
    rw [show ([] : List Nat).length + q.length = q.length by simp]
    exact any_seqL q listed a w hB h
  | i :: r, listed, a, w, hB, h => by
    simp only [pureB, Bool.and_eq_true] at hB
    obtain ⟨⟨hr, hf⟩, hB'⟩ := hB
    have hi : i ∈ Region.ready md l.toArray listed := by simpa using hr
    obtain ⟨_, o, ho, _⟩ := mem_ready.1 hi
    have hn : nth l i = some o := by rw [nth_eq]; simpa using ho
    have hp : pickN l (i :: r) = o :: pickN l r := by simp only [pickN, hn]
    rw [hp] at h
    rw [show (i :: r).length + q.length = (r.length + q.length) + 1 by simp; omega]
    rcases h with ⟨hw, v, hv, hk⟩ | ⟨hw, hk⟩
    · exact wpAny_take ho hsel hf hr (fun c a w hq => absurd hq (hQ _ _ _)) (.inl ⟨hw, hv⟩) (any_pure hQ hsel q r _ _ w hB' hk)
    · exact wpAny_take ho hsel hf hr (fun c a w hq => absurd hq (hQ _ _ _)) (.inr ⟨hw, rfl⟩) (any_pure hQ hsel q r _ _ w hB' hk)
/-- The region's law: 'p' are taken first, then 'q' in that order. -/
theorem pure {id : Nat} {Q : Exit → Act → World → Prop} {a : Act} {w : World} {l : List Oper} (p q : List Nat) (hm : P.follows .mixedOrders = true)
    (hB : (Region.noSelect l.toArray && decide (p.length + q.length = l.toArray.size) && pureB .any l.toArray q p (Array.replicate l.toArray.size false)) = true)
    (h : wpPure P l.toArray (NoPanic Q) (pickN l q) (pickN l p) a w.drew) : (Code.region id l.toArray true).wp P Q a w := by
  simp only [Bool.and_eq_true, decide_eq_true_eq] at hB
  obtain ⟨⟨hsel, hpl⟩, hp⟩ := hB
  have H := any_pure (P := P) (md := .any) (Q := NoPanic Q) NoPanic_no hsel q p _ a w.drew hp h
  rw [hpl] at H
  exact wp_region_noPanic (wp_region_any hm H)
theorem uK {tail : List Oper} {a : Act} {w : World} {o : Oper} {r : List Oper} (hw : Region.wanted o (yielded ops a.tmps) = true)
    (h : ∀ K : Act → Prop, (∀ a, wpPure P ops Q tail r a w → K a) → ∃ v, (∀ x, Gives x v ((execOp a.eval o).run P x)) ∧ K (a.put o.dst v)) : wpPure P ops Q tail (o :: r) a w := by
  obtain ⟨v, h1, h2⟩ := h _ (fun _ h => h)
  exact .inl ⟨hw, v, fun x => (h1 x).eq, h2⟩
theorem uDone {tail : List Oper} {a : Act} {w : World} (h : wpList P ops Q tail a w) : wpPure P ops Q tail [] a w := h
end
end Rp
end Go.Proofs.YtmkoiddfkanmiaaDoor

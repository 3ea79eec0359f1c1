/- A drawn region: operations that look at no memory are taken first, the rest come in the orders of a plan with branches, and may do anything. -/
import Derived.Test.YtmonkggoilhngaaGreatDoorGFew
namespace Go.Proofs.YtmonkggoilhngaaGreatDoor
open Go.RowKit Mem
namespace Rp
section
variable {P : Program} {md : Region.Mode} {Q : Exit → Act → World → Prop} {ops : Array Oper}
def treeB (md : Region.Mode) (ops : Array Oper) : Plan → Array Bool → Bool
  | .done, listed => (Region.ready md ops listed).isEmpty
  | .s _ _, _ => false
  | .f i p, listed => decide (Region.ready md ops listed = [i]) && treeB md ops p (listed.setIfInBounds i true)
  | .b i p j q, listed => decide (Region.ready md ops listed = [i, j]) && decide (p.size = q.size) && treeB md ops p (listed.setIfInBounds i true) && treeB md ops q (listed.setIfInBounds j true)
/-- One operation, whatever it does. -/
def wpFree (P : Program) (ops : Array Oper) (Q : Exit → Act → World → Prop) (o : Option Oper) (K : Act → World → Prop) (a : Act) (w : World) : Prop :=
  match o with
  | some o => wpList P ops (fun e a' w' => match e with | .normal => K a' w' | e => Q e a' w') [o] a w
  | none => False
def wpTree (P : Program) (l : List Oper) (Q : Exit → Act → World → Prop) : Plan → Act → World → Prop
  | .done, a, w => wpList P l.toArray Q [] a w
  | .s _ _, _, _ => False
  | .f i p, a, w => wpFree P l.toArray Q (nth l i) (wpTree P l Q p) a w
  | .b i p j q, a, w => wpFree P l.toArray Q (nth l i) (wpTree P l Q p) a w ∧ wpFree P l.toArray Q (nth l j) (wpTree P l Q q) a w
theorem wpFree_op {l : List Oper} {i : Nat} {K : Act → World → Prop} {a : Act} {w : World} (h : wpFree P l.toArray Q (nth l i) K a w) : wpOp P l.toArray Q i K a w := by
  unfold wpFree at h
  split at h
  · rename_i o ho
    rw [nth_eq] at ho
    have ho' : l.toArray[i]? = some o := by simpa using ho
    unfold Go.wpOp
    simp only [ho']
    unfold wpList at h
    split
    · rename_i hw
      simp only [hw, if_true] at h
      rcases h with h2 | ⟨h2, h4⟩
      · refine .inl ?_
        unfold Oper.wp at h2 ⊢
        generalize (execOp a.eval o).run P w = res at *
        cases res with
        | ok nx w' => cases nx <;> simp only [Oper.upon] at h2 ⊢ <;> exact h2
        | halt y w' => cases y <;> simp only [Oper.upon] at h2 ⊢ <;> exact h2
      · exact .inr ⟨h2, h4⟩
    · rename_i hw
      simp only [hw] at h
      exact h
  · exact absurd h id
theorem any_tree {l : List Oper} : ∀ (p : Plan) (listed : Array Bool) (a : Act) (w : World), treeB md l.toArray p listed = true → wpTree P l Q p a w → wpAny P md l.toArray Q p.size listed a w
  | .done, listed, a, w, hB, h => ⟨by simpa [treeB] using hB, h⟩
  | .s _ _, _, _, _, hB, _ => by cases hB
  | .f i p, listed, a, w, hB, h => by
    simp only [treeB, Bool.and_eq_true, decide_eq_true_eq] at hB
    refine ⟨fun h1 => (by rw [hB.1] at h1; cases h1), fun k hk => ?_⟩
    rw [hB.1] at hk
    have hik : k = i := by simpa using hk
    subst hik
    exact wpOp_mono (fun a' w' h' => any_tree p _ a' w' hB.2 h') (wpFree_op h)
  | .b i p j q, listed, a, w, hB, h => by
    simp only [treeB, Bool.and_eq_true, decide_eq_true_eq] at hB
    obtain ⟨⟨⟨h1, hs⟩, h2⟩, h3⟩ := hB
    refine ⟨fun h0 => (by rw [h1] at h0; cases h0), fun k hk => ?_⟩
    rw [h1] at hk
    have hik : k = i ∨ k = j := by simpa using hk
    rcases hik with rfl | rfl
    · exact wpOp_mono (fun a' w' h' => any_tree p _ a' w' h2 h') (wpFree_op h.1)
    · exact wpOp_mono (fun a' w' h' => (by show wpAny P md l.toArray Q p.size _ a' w'; rw [hs]; exact any_tree q _ a' w' h3 h')) (wpFree_op h.2)
def pureT (md : Region.Mode) (ops : Array Oper) (q : Plan) : List Nat → Array Bool → Bool
  | [], listed => treeB md ops q listed
  | i :: r, listed => (Region.ready md ops listed).contains i && Region.free md ops listed i && pureT md ops q r (listed.setIfInBounds i true)
def wpPureT (P : Program) (l : List Oper) (Q : Exit → Act → World → Prop) (q : Plan) : List Oper → Act → World → Prop
  | [], a, w => wpTree P l Q q a w
  | o :: r, a, w => (Region.wanted o (yielded l.toArray a.tmps) = true ∧ ∃ v, (∀ x, (execOp a.eval o).run P x = .ok (.value v) x) ∧ wpPureT P l Q q r (a.put o.dst v) w) ∨
      (Region.wanted o (yielded l.toArray a.tmps) = false ∧ wpPureT P l Q q r (a.put o.dst undef) w)
theorem any_pureT {l : List Oper} (hQ : ∀ c a w, ¬ Q (.panic c) a w) (hsel : Region.noSelect l.toArray = true) (q : Plan) : ∀ (p : List Nat) (listed : Array Bool) (a : Act) (w : World), pureT md l.toArray q p listed = true →
    wpPureT P l Q q (pickN l p) a w → wpAny P md l.toArray Q (p.length + q.size) listed a w
  | [], listed, a, w, hB, h => by
    rw [show ([] : List Nat).length + q.size = q.size by simp]
    exact any_tree q listed a w hB h
  | i :: r, listed, a, w, hB, h => by
    simp only [pureT, Bool.and_eq_true] at hB
    obtain ⟨⟨hr, hf⟩, hB'⟩ := hB
    have hi : i ∈ Region.ready md l.toArray listed := by simpa using hr
    obtain ⟨_, o, ho, _⟩ := mem_ready.1 hi
    have hn : nth l i = some o := by rw [nth_eq]; simpa using ho
    have hp : pickN l (i :: r) = o :: pickN l r := by simp only [pickN, hn]
    rw [hp] at h
    rw [show (i :: r).length + q.size = (r.length + q.size) + 1 by simp; omega]
    rcases h with ⟨hw, v, hv, hk⟩ | ⟨hw, hk⟩
    · exact wpAny_take ho hsel hf hr (fun c a w hq => absurd hq (hQ _ _ _)) (.inl ⟨hw, hv⟩) (any_pureT hQ hsel q r _ _ w hB' hk)
    · exact wpAny_take ho hsel hf hr (fun c a w hq => absurd hq (hQ _ _ _)) (.inr ⟨hw, rfl⟩) (any_pureT hQ hsel q r _ _ w hB' hk)
/-- The region's law: 'p' are taken first, then the plan. -/
theorem tree {id : Nat} {Q : Exit → Act → World → Prop} {a : Act} {w : World} {l : List Oper} (p : List Nat) (q : Plan) (hm : P.follows .mixedOrders = true)
    (hB : (Region.noSelect l.toArray && decide (p.length + q.size = l.toArray.size) && pureT .any l.toArray q p (Array.replicate l.toArray.size false)) = true)
    (h : wpPureT P l (NoPanic Q) q (pickN l p) a w.drew) : (Code.region id l.toArray true).wp P Q a w := by
  simp only [Bool.and_eq_true, decide_eq_true_eq] at hB
  obtain ⟨⟨hsel, hpl⟩, hp⟩ := hB
  have H := any_pureT (P := P) (md := .any) (Q := NoPanic Q) NoPanic_no hsel q p _ a w.drew hp h
  rw [hpl] at H
  exact wp_region_noPanic (wp_region_any hm H)
theorem tK {l : List Oper} {q : Plan} {a : Act} {w : World} {o : Oper} {r : List Oper} (hw : Region.wanted o (yielded l.toArray a.tmps) = true)
    (h : ∀ K : Act → Prop, (∀ a, wpPureT P l Q q r a w → K a) → ∃ v, (∀ x, Gives x v ((execOp a.eval o).run P x)) ∧ K (a.put o.dst v)) : wpPureT P l Q q (o :: r) a w := by
  obtain ⟨v, h1, h2⟩ := h _ (fun _ h => h)
  exact .inl ⟨hw, v, fun x => (h1 x).eq, h2⟩
theorem tStart {l : List Oper} {q : Plan} {a : Act} {w : World} (h : wpTree P l Q q a w) : wpPureT P l Q q [] a w := h
theorem tF {l : List Oper} {i : Nat} {p : Plan} {a : Act} {w : World} {o : Oper} (ho : nth l i = some o)
    (h : ∀ K : Act → World → Prop, (∀ a w, wpTree P l Q p a w → K a w) → wpList P l.toArray (fun e a' w' => match e with | .normal => K a' w' | e => Q e a' w') [o] a w) : wpTree P l Q (.f i p) a w := by
  have := h _ (fun _ _ h => h)
  unfold wpTree wpFree
  rw [ho]
  exact this
theorem tB {l : List Oper} {i j : Nat} {p q : Plan} {a : Act} {w : World} (h1 : wpTree P l Q (.f i p) a w) (h2 : wpTree P l Q (.f j q) a w) : wpTree P l Q (.b i p j q) a w := ⟨h1, h2⟩
theorem tDone {l : List Oper} {a : Act} {w : World} (h : Q .normal a w) : wpTree P l Q .done a w := h
end
end Rp
end Go.Proofs.YtmonkggoilhngaaGreatDoor

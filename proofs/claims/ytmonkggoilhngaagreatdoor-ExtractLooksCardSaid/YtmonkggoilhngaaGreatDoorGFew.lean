/- The walks of custumalref01.Few and custumalref01.All. Conditions: counts and lengths that fit. -/
import Derived.Test.YtmonkggoilhngaaGreatDoorGPerm
import Derived.Test.YtmonkggoilhngaaGreatDoorGShaD
namespace Go.Proofs.YtmonkggoilhngaaGreatDoor
open Go.RowKit Bits Mem Sha
namespace Ref
def few (L : List (List UInt8)) (m s : Nat) : List (List UInt8) := (L.take m).map (·.take s)
theorem parts3 {t : TypeId} {z : Value} {s b : Nat} (h : (Tryz.prog.info? t).map (fun i => (i.zero, i.size, i.bytes)) = some (some z, s, b)) : ∃ i0, Tryz.prog.info? t = some i0 ∧ i0.zero = some z ∧ i0.size = s ∧ i0.bytes = b := by
  obtain ⟨i0, h1, h2⟩ := Option.map_eq_some_iff.1 h
  simp only [Prod.mk.injEq] at h2
  exact ⟨i0, h1, h2.1, h2.2.1, h2.2.2⟩
end Ref
end Go.Proofs.YtmonkggoilhngaaGreatDoor
/- The law for a drawn region with a plan: as Rp.region, and where two operations may come first that both make memory, a walk for each. -/
namespace Go.Proofs.YtmonkggoilhngaaGreatDoor
open Go.RowKit Mem
namespace Rp
inductive Plan where
  | done
  | s (i : Nat) (p : Plan)
  | f (i : Nat) (p : Plan)
  | b (i : Nat) (p : Plan) (j : Nat) (q : Plan)
section
variable {P : Program} {md : Region.Mode} {Q : Exit → Act → World → Prop}
def Plan.size : Plan → Nat
  | .done => 0
  | .s _ p => p.size + 1
  | .f _ p => p.size + 1
  | .b _ p _ _ => p.size + 1
def planB (md : Region.Mode) (ops : Array Oper) (n : Nat) : Plan → Array Bool → Bool
  | .done, listed => Region.seqB md ops (ops.size - n) n listed
  | .s i p, listed => decide (i < n) && ((Region.ready md ops listed).contains i && Region.free md ops listed i) && planB md ops n p (listed.setIfInBounds i true)
  | .f i p, listed => decide (i < n) && decide (Region.ready md ops listed = [i]) && planB md ops n p (listed.setIfInBounds i true)
  | .b i p j q, listed => decide (i < n) && decide (j < n) && decide (Region.ready md ops listed = [i, j]) && decide (p.size = q.size) && planB md ops n p (listed.setIfInBounds i true) && planB md ops n q (listed.setIfInBounds j true)
def wpOne (P : Program) (ops : Array Oper) (Q : Exit → Act → World → Prop) (o : Option Oper) (K : Act → World → Prop) (a : Act) (w : World) : Prop :=
  match o with
  | some o => wpList P ops (fun e a' w' => match e with | .normal => Le w w' ∧ K a' w' | e => Q e a' w') [o] a w
  | none => False
def wpPlan (P : Program) (l : List Oper) (Q : Exit → Act → World → Prop) (tail : List Oper) : Plan → Act → World → Prop
  | .done, a, w => wpList P l.toArray Q tail a w
  | .s i p, a, w => match nth l i with
    | some o => (Region.wanted o (yielded l.toArray a.tmps) = true ∧ ∃ v, (∀ x, Le w x → (execOp a.eval o).run P x = .ok (.value v) x) ∧ wpPlan P l Q tail p (a.put o.dst v) w) ∨
      (Region.wanted o (yielded l.toArray a.tmps) = false ∧ wpPlan P l Q tail p (a.put o.dst undef) w)
    | none => False
  | .f i p, a, w => wpOne P l.toArray Q (nth l i) (wpPlan P l Q tail p) a w
  | .b i p j q, a, w => wpOne P l.toArray Q (nth l i) (wpPlan P l Q tail p) a w ∧ wpOne P l.toArray Q (nth l j) (wpPlan P l Q tail q) a w
theorem wpOne_op {l : List Oper} {i : Nat} {K : Act → World → Prop} {a : Act} {w : World} (hi : i < l.length) (h : wpOne P l.toArray Q (nth l i) K a w) :
    wpOp P l.toArray Q i (fun a' w' => Le w w' ∧ K a' w') a w := by
  obtain ⟨o, ho⟩ : ∃ o, l[i]? = some o := ⟨_, List.getElem?_eq_getElem hi⟩
  have ho' : l.toArray[i]? = some o := by simpa using ho
  rw [nth_eq, ho] at h
  unfold wpOne at h
  simp only at h
  unfold Go.wpOp
  simp only [ho']
  unfold wpList at h
  split
  · rename_i hw
    simp only [hw, if_true] at h
    rcases h with h2 | ⟨h2, h4⟩
    · refine .inl ?_
      unfold Oper.wp at h2 ⊢
      generalize (execOp a.eval o).run P w = res at *
      cases res with
      | ok nx w' =>
        cases nx <;> simp only [Oper.upon] at h2 ⊢ <;> exact h2
      | halt y w' => cases y <;> simp only [Oper.upon] at h2 ⊢ <;> exact h2
    · exact .inr ⟨h2, h4⟩
  · rename_i hw
    simp only [hw] at h
    exact h
theorem anyB_plan {l : List Oper} {n : Nat} (hQ : ∀ c a w, ¬ Q (.panic c) a w) (hsel : Region.noSelect l.toArray = true) (hs : Region.sinkB md l.toArray n = true) (hc : Region.chainB md l.toArray n = true) (hn : n < l.toArray.size) :
    ∀ (p : Plan) (listed : Array Bool) (a : Act) (w : World), HeadInv md l.toArray n listed → planB md l.toArray n p listed = true →
      wpPlan P l Q (l.drop n) p a w → anyB P md l.toArray n Q (p.size + (l.toArray.size - n)) listed a w
  | .done, listed, a, w, _, hB, h => by
    have hdl : (l.drop n).length = l.toArray.size - n := by simp
    have := anyB_seq (P := P) (md := md) (Q := Q) (n := n) (ops := l.toArray) (l.drop n) n listed a w (Nat.le_refl _) (fun j => by simp [List.getElem?_drop]) (by rw [hdl]; exact hB) h
    simpa [hdl, Plan.size] using this
  | .s i p, listed, a, w, inv, hB, h => by
    simp only [planB, Bool.and_eq_true, decide_eq_true_eq] at hB
    obtain ⟨⟨hin, hr1, hr2⟩, hB'⟩ := hB
    have hil : i < l.length := by simp at hn; omega
    obtain ⟨o, ho⟩ : ∃ o, l[i]? = some o := ⟨_, List.getElem?_eq_getElem hil⟩
    have ho' : l.toArray[i]? = some o := by simpa using ho
    unfold wpPlan at h
    rw [nth_eq, ho] at h
    simp only at h
    rw [show (Plan.s i p).size + (l.toArray.size - n) = (p.size + (l.toArray.size - n)) + 1 by simp only [Plan.size]; omega]
    have hr1' : i ∈ Region.ready md l.toArray listed := by simpa using hr1
    have inv' := inv.set hr1' hin
    rcases h with ⟨hw, v, hv, hk⟩ | ⟨hw, hk⟩
    · exact anyB_first ho' (Region.noSelect_spec hsel) hQ hs hc hn hin _ listed a w inv (Region.free_spec ho' hr2) hr1' (.inl ⟨hw, hv⟩) (anyB_plan hQ hsel hs hc hn p _ _ _ inv' hB' hk)
    · exact anyB_first ho' (Region.noSelect_spec hsel) hQ hs hc hn hin _ listed a w inv (Region.free_spec ho' hr2) hr1' (.inr ⟨hw, rfl⟩) (anyB_plan hQ hsel hs hc hn p _ _ _ inv' hB' hk)
  | .f i p, listed, a, w, inv, hB, h => by
    simp only [planB, Bool.and_eq_true, decide_eq_true_eq] at hB
    obtain ⟨⟨hin, hr⟩, hB'⟩ := hB
    have hil : i < l.length := by simp at hn; omega
    have hr1' : i ∈ Region.ready md l.toArray listed := by rw [hr]; simp
    have inv' := inv.set hr1' hin
    rw [show (Plan.f i p).size + (l.toArray.size - n) = (p.size + (l.toArray.size - n)) + 1 by simp only [Plan.size]; omega]
    refine ⟨fun h0 => (by rw [hr] at h0; cases h0), fun k hk => ?_⟩
    rw [hr] at hk
    have hki : k = i := by simpa using hk
    subst hki
    exact wpOp_mono (fun a' w' h' => ⟨fun _ => h'.1, anyB_plan hQ hsel hs hc hn p _ _ _ inv' hB' h'.2⟩) (wpOne_op hil h)
  | .b i p j q, listed, a, w, inv, hB, h => by
    simp only [planB, Bool.and_eq_true, decide_eq_true_eq] at hB
    obtain ⟨⟨⟨⟨⟨hin, hjn⟩, hr⟩, hsz⟩, hB1⟩, hB2⟩ := hB
    have hil : i < l.length := by simp at hn; omega
    have hjl : j < l.length := by simp at hn; omega
    have hri : i ∈ Region.ready md l.toArray listed := by rw [hr]; simp
    have hrj : j ∈ Region.ready md l.toArray listed := by rw [hr]; simp
    rw [show (Plan.b i p j q).size + (l.toArray.size - n) = (p.size + (l.toArray.size - n)) + 1 by simp only [Plan.size]; omega]
    refine ⟨fun h0 => (by rw [hr] at h0; cases h0), fun k hk => ?_⟩
    rw [hr] at hk
    have hkij : k = i ∨ k = j := by simpa using hk
    rcases hkij with rfl | rfl
    · exact wpOp_mono (fun a' w' h' => ⟨fun _ => h'.1, anyB_plan hQ hsel hs hc hn p _ _ _ (inv.set hri hin) hB1 h'.2⟩) (wpOne_op hil h.1)
    · refine wpOp_mono (fun a' w' h' => ⟨fun _ => h'.1, ?_⟩) (wpOne_op hjl h.2)
      rw [hsz]
      exact anyB_plan hQ hsel hs hc hn q _ _ _ (inv.set hrj hjn) hB2 h'.2
theorem plan {id : Nat} {Q : Exit → Act → World → Prop} {a : Act} {w : World} {l : List Oper} (n : Nat) (p : Plan) (hm : P.follows .mixedOrders = true)
    (hB : (Region.noSelect l.toArray && decide (n < l.toArray.size) && decide (p.size = n) && Region.sinkB .any l.toArray n && Region.chainB .any l.toArray n && planB .any l.toArray n p (Array.replicate l.toArray.size false)) = true)
    (h : wpPlan P l (NoPanic Q) (l.drop n) p a w.drew) : (Code.region id l.toArray true).wp P Q a w := by
  simp only [Bool.and_eq_true, decide_eq_true_eq] at hB
  obtain ⟨⟨⟨⟨⟨hsel, hn⟩, hpl⟩, hs⟩, hc⟩, hp⟩ := hB
  have inv0 : HeadInv .any l.toArray n (Array.replicate l.toArray.size false) :=
    ⟨by simp, fun j oj _ hl => (by rw [getD_replicate_false] at hl; cases hl), fun t _ ht => getD_in (by simpa using ht) (getD_replicate_false _ _)⟩
  have H := anyB_plan (P := P) (md := .any) (Q := NoPanic Q) NoPanic_no hsel hs hc hn p _ a w.drew inv0 hp h
  rw [show p.size + (l.toArray.size - n) = l.toArray.size by omega] at H
  exact wp_region_noPanic (wp_region_any hm (any_of _ _ _ _ H))
variable {l : List Oper} {tail : List Oper} {a : Act} {w : World} {o : Oper} {p q : Plan} {i j : Nat}
end
theorem l_cut {P : Program} {ops : Array Oper} {Q : Exit → Act → World → Prop} {rest : List Oper} {o : Oper} {a : Act} {w : World} (hgd : o.guard = none) (t : TypeId) (y z : Operand) (ho' : o.op = .slice t y none (some z) none) (e : TypeId) (i0 : TypeInfo) (ht : P.underlying t = some (.slice e)) (hi : P.info? e = some i0)
    (q : Option Addr) (n c k : Nat) (hy : a.eval y = .slice q n c) (hz : a.eval z = .int .i64 (k : Int)) (hk : k ≤ c)
    (h : wpList P ops Q rest (a.put o.dst (.slice q k c)) w) : wpList P ops Q (o :: rest) a w :=
  wpList_plain hgd fun K hK => by
    have hrun := run_cut (P := P) t e i0 ht hi q n c k hk w
    unfold Oper.wp
    simp [execOp, ho', hy, hz, Instr.sliceAt, Sem.run_bind, run_underlying ht, hrun]
    exact hK _ _ h
end Rp
end Go.Proofs.YtmonkggoilhngaaGreatDoor
/- A drawn region: operations that look at no memory are taken first, the rest stand in one order and may do anything. -/
namespace Go.Proofs.YtmonkggoilhngaaGreatDoor
open Go.RowKit Mem
namespace Rp
section
variable {P : Program} {md : Region.Mode} {Q : Exit → Act → World → Prop} {ops : Array Oper}
def seqL (md : Region.Mode) (ops : Array Oper) : List Nat → Array Bool → Bool
  | [], listed => (Region.ready md ops listed).isEmpty
  | i :: r, listed => decide (Region.ready md ops listed = [i]) && seqL md ops r (listed.setIfInBounds i true)
def pickN (l : List Oper) : List Nat → List Oper
  | [] => []
  | i :: r => match nth l i with
    | some o => o :: pickN l r
    | none => []
theorem any_seqL {l : List Oper} : ∀ (q : List Nat) (listed : Array Bool) (a : Act) (w : World), seqL md l.toArray q listed = true → wpList P l.toArray Q (pickN l q) a w → wpAny P md l.toArray Q q.length listed a w
  | [], _, _, _, hB, h => ⟨by simpa [seqL] using hB, h⟩
  | i :: r, listed, a, w, hB, h => by
    simp only [seqL, Bool.and_eq_true, decide_eq_true_eq] at hB
    have hi : i ∈ Region.ready md l.toArray listed := by rw [hB.1]; simp
    obtain ⟨_, o, ho, _⟩ := mem_ready.1 hi
    have hn : nth l i = some o := by rw [nth_eq]; simpa using ho
    have hp : pickN l (i :: r) = o :: pickN l r := by simp only [pickN, hn]
    rw [hp] at h
    refine ⟨fun h1 => (by rw [hB.1] at h1; cases h1), fun k hk => ?_⟩
    rw [hB.1] at hk
    have hik : k = i := by simpa using hk
    subst hik
    have hw : wpOp P l.toArray Q k (wpList P l.toArray Q (pickN l r)) a w := by unfold Go.wpOp; simp only [ho]; exact h
    exact wpOp_mono (fun a' w' h' => any_seqL r _ a' w' hB.2 h') hw
def pureB (md : Region.Mode) (ops : Array Oper) (q : List Nat) : List Nat → Array Bool → Bool
  | [], listed => seqL md ops q listed
  | i :: r, listed => (Region.ready md ops listed).contains i && Region.free md ops listed i && pureB md ops q r (listed.setIfInBounds i true)
def wpPure (P : Program) (ops : Array Oper) (Q : Exit → Act → World → Prop) (tail : List Oper) : List Oper → Act → World → Prop
  | [], a, w => wpList P ops Q tail a w
  | o :: r, a, w => (Region.wanted o (yielded ops a.tmps) = true ∧ ∃ v, (∀ x, (execOp a.eval o).run P x = .ok (.value v) x) ∧ wpPure P ops Q tail r (a.put o.dst v) w) ∨
      (Region.wanted o (yielded ops a.tmps) = false ∧ wpPure P ops Q tail r (a.put o.dst undef) w)
theorem any_pure {l : List Oper} (hQ : ∀ c a w, ¬ Q (.panic c) a w) (hsel : Region.noSelect l.toArray = true) (q : List Nat) : ∀ (p : List Nat) (listed : Array Bool) (a : Act) (w : World), pureB md l.toArray q p listed = true →
    wpPure P l.toArray Q (pickN l q) (pickN l p) a w → wpAny P md l.toArray Q (p.length + q.length) listed a w
  | [], listed, a, w, hB, h => by
    rw [show ([] : List Nat).length + q.length = q.length by simp]
    exact any_seqL q listed a w hB h
  | i :: r, listed, a, w, hB, h => by
    simp only [pureB, Bool.and_eq_true] at hB
    obtain ⟨⟨hr, hf⟩, hB'⟩ := hB
    have hi : i ∈ Region.ready md l.toArray listed := by simpa using hr
    obtain ⟨_, o, ho, _⟩ := mem_ready.1 hi
    have hn : nth l i = some o := by rw [nth_eq]; simpa using ho
    have hp : pickN l (i :: r) = o :: pickN l r := by simp only [pickN, hn]
    rw [hp] at h
    rw [show (i :: r).length + q.length = (r.length + q.length) + 1 by simp; omega]
    rcases h with ⟨hw, v, hv, hk⟩ | ⟨hw, hk⟩
    · exact wpAny_take ho hsel hf hr (fun c a w hq => absurd hq (hQ _ _ _)) (.inl ⟨hw, hv⟩) (any_pure hQ hsel q r _ _ w hB' hk)
    · exact wpAny_take ho hsel hf hr (fun c a w hq => absurd hq (hQ _ _ _)) (.inr ⟨hw, rfl⟩) (any_pure hQ hsel q r _ _ w hB' hk)
theorem pure {id : Nat} {Q : Exit → Act → World → Prop} {a : Act} {w : World} {l : List Oper} (p q : List Nat) (hm : P.follows .mixedOrders = true)
    (hB : (Region.noSelect l.toArray && decide (p.length + q.length = l.toArray.size) && pureB .any l.toArray q p (Array.replicate l.toArray.size false)) = true)
    (h : wpPure P l.toArray (NoPanic Q) (pickN l q) (pickN l p) a w.drew) : (Code.region id l.toArray true).wp P Q a w := by
  simp only [Bool.and_eq_true, decide_eq_true_eq] at hB
  obtain ⟨⟨hsel, hpl⟩, hp⟩ := hB
  have H := any_pure (P := P) (md := .any) (Q := NoPanic Q) NoPanic_no hsel q p _ a w.drew hp h
  rw [hpl] at H
  exact wp_region_noPanic (wp_region_any hm H)
theorem uK {tail : List Oper} {a : Act} {w : World} {o : Oper} {r : List Oper} (hw : Region.wanted o (yielded ops a.tmps) = true)
    (h : ∀ K : Act → Prop, (∀ a, wpPure P ops Q tail r a w → K a) → ∃ v, (∀ x, Gives x v ((execOp a.eval o).run P x)) ∧ K (a.put o.dst v)) : wpPure P ops Q tail (o :: r) a w := by
  obtain ⟨v, h1, h2⟩ := h _ (fun _ h => h)
  exact .inl ⟨hw, v, fun x => (h1 x).eq, h2⟩
theorem uDone {tail : List Oper} {a : Act} {w : World} (h : wpList P ops Q tail a w) : wpPure P ops Q tail [] a w := h
end
end Rp
end Go.Proofs.YtmonkggoilhngaaGreatDoor
/- A drawn region: operations that look at no memory are taken first, the rest come in the orders of a plan with branches, and may do anything. -/
namespace Go.Proofs.YtmonkggoilhngaaGreatDoor
open Go.RowKit Mem
namespace Rp
section
variable {P : Program} {md : Region.Mode} {Q : Exit → Act → World → Prop} {ops : Array Oper}
def treeB (md : Region.Mode) (ops : Array Oper) : Plan → Array Bool → Bool
  | .done, listed => (Region.ready md ops listed).isEmpty
  | .s _ _, _ => false
  | .f i p, listed => decide (Region.ready md ops listed = [i]) && treeB md ops p (listed.setIfInBounds i true)
  | .b i p j q, listed => decide (Region.ready md ops listed = [i, j]) && decide (p.size = q.size) && treeB md ops p (listed.setIfInBounds i true) && treeB md ops q (listed.setIfInBounds j true)
def wpFree (P : Program) (ops : Array Oper) (Q : Exit → Act → World → Prop) (o : Option Oper) (K : Act → World → Prop) (a : Act) (w : World) : Prop :=
  match o with
  | some o => wpList P ops (fun e a' w' => match e with | .normal => K a' w' | e => Q e a' w') [o] a w
  | none => False
def wpTree (P : Program) (l : List Oper) (Q : Exit → Act → World → Prop) : Plan → Act → World → Prop
  | .done, a, w => wpList P l.toArray Q [] a w
  | .s _ _, _, _ => False
  | .f i p, a, w => wpFree P l.toArray Q (nth l i) (wpTree P l Q p) a w
  | .b i p j q, a, w => wpFree P l.toArray Q (nth l i) (wpTree P l Q p) a w ∧ wpFree P l.toArray Q (nth l j) (wpTree P l Q q) a w
theorem wpFree_op {l : List Oper} {i : Nat} {K : Act → World → Prop} {a : Act} {w : World} (h : wpFree P l.toArray Q (nth l i) K a w) : wpOp P l.toArray Q i K a w := by
  unfold wpFree at h
  split at h
  · rename_i o ho
    rw [nth_eq] at ho
    have ho' : l.toArray[i]? = some o := by simpa using ho
    unfold Go.wpOp
    simp only [ho']
    unfold wpList at h
    split
    · rename_i hw
      simp only [hw, if_true] at h
      rcases h with h2 | ⟨h2, h4⟩
      · refine .inl ?_
        unfold Oper.wp at h2 ⊢
        generalize (execOp a.eval o).run P w = res at *
        cases res with
        | ok nx w' => cases nx <;> simp only [Oper.upon] at h2 ⊢ <;> exact h2
        | halt y w' => cases y <;> simp only [Oper.upon] at h2 ⊢ <;> exact h2
      · exact .inr ⟨h2, h4⟩
    · rename_i hw
      simp only [hw] at h
      exact h
  · exact absurd h id
theorem any_tree {l : List Oper} : ∀ (p : Plan) (listed : Array Bool) (a : Act) (w : World), treeB md l.toArray p listed = true → wpTree P l Q p a w → wpAny P md l.toArray Q p.size listed a w
  | .done, listed, a, w, hB, h => ⟨by simpa [treeB] using hB, h⟩
  | .s _ _, _, _, _, hB, _ => by cases hB
  | .f i p, listed, a, w, hB, h => by
    simp only [treeB, Bool.and_eq_true, decide_eq_true_eq] at hB
    refine ⟨fun h1 => (by rw [hB.1] at h1; cases h1), fun k hk => ?_⟩
    rw [hB.1] at hk
    have hik : k = i := by simpa using hk
    subst hik
    exact wpOp_mono (fun a' w' h' => any_tree p _ a' w' hB.2 h') (wpFree_op h)
  | .b i p j q, listed, a, w, hB, h => by
    simp only [treeB, Bool.and_eq_true, decide_eq_true_eq] at hB
    obtain ⟨⟨⟨h1, hs⟩, h2⟩, h3⟩ := hB
    refine ⟨fun h0 => (by rw [h1] at h0; cases h0), fun k hk => ?_⟩
    rw [h1] at hk
    have hik : k = i ∨ k = j := by simpa using hk
    rcases hik with rfl | rfl
    · exact wpOp_mono (fun a' w' h' => any_tree p _ a' w' h2 h') (wpFree_op h.1)
    · exact wpOp_mono (fun a' w' h' => (by show wpAny P md l.toArray Q p.size _ a' w'; rw [hs]; exact any_tree q _ a' w' h3 h')) (wpFree_op h.2)
def pureT (md : Region.Mode) (ops : Array Oper) (q : Plan) : List Nat → Array Bool → Bool
  | [], listed => treeB md ops q listed
  | i :: r, listed => (Region.ready md ops listed).contains i && Region.free md ops listed i && pureT md ops q r (listed.setIfInBounds i true)
def wpPureT (P : Program) (l : List Oper) (Q : Exit → Act → World → Prop) (q : Plan) : List Oper → Act → World → Prop
  | [], a, w => wpTree P l Q q a w
  | o :: r, a, w => (Region.wanted o (yielded l.toArray a.tmps) = true ∧ ∃ v, (∀ x, (execOp a.eval o).run P x = .ok (.value v) x) ∧ wpPureT P l Q q r (a.put o.dst v) w) ∨
      (Region.wanted o (yielded l.toArray a.tmps) = false ∧ wpPureT P l Q q r (a.put o.dst undef) w)
theorem any_pureT {l : List Oper} (hQ : ∀ c a w, ¬ Q (.panic c) a w) (hsel : Region.noSelect l.toArray = true) (q : Plan) : ∀ (p : List Nat) (listed : Array Bool) (a : Act) (w : World), pureT md l.toArray q p listed = true →
    wpPureT P l Q q (pickN l p) a w → wpAny P md l.toArray Q (p.length + q.size) listed a w
  | [], listed, a, w, hB, h => by
    rw [show ([] : List Nat).length + q.size = q.size by simp]
    exact any_tree q listed a w hB h
  | i :: r, listed, a, w, hB, h => by
    simp only [pureT, Bool.and_eq_true] at hB
    obtain ⟨⟨hr, hf⟩, hB'⟩ := hB
    have hi : i ∈ Region.ready md l.toArray listed := by simpa using hr
    obtain ⟨_, o, ho, _⟩ := mem_ready.1 hi
    have hn : nth l i = some o := by rw [nth_eq]; simpa using ho
    have hp : pickN l (i :: r) = o :: pickN l r := by simp only [pickN, hn]
    rw [hp] at h
    rw [show (i :: r).length + q.size = (r.length + q.size) + 1 by simp; omega]
    rcases h with ⟨hw, v, hv, hk⟩ | ⟨hw, hk⟩
    · exact wpAny_take ho hsel hf hr (fun c a w hq => absurd hq (hQ _ _ _)) (.inl ⟨hw, hv⟩) (any_pureT hQ hsel q r _ _ w hB' hk)
    · exact wpAny_take ho hsel hf hr (fun c a w hq => absurd hq (hQ _ _ _)) (.inr ⟨hw, rfl⟩) (any_pureT hQ hsel q r _ _ w hB' hk)
theorem tree {id : Nat} {Q : Exit → Act → World → Prop} {a : Act} {w : World} {l : List Oper} (p : List Nat) (q : Plan) (hm : P.follows .mixedOrders = true)
    (hB : (Region.noSelect l.toArray && decide (p.length + q.size = l.toArray.size) && pureT .any l.toArray q p (Array.replicate l.toArray.size false)) = true)
    (h : wpPureT P l (NoPanic Q) q (pickN l p) a w.drew) : (Code.region id l.toArray true).wp P Q a w := by
  simp only [Bool.and_eq_true, decide_eq_true_eq] at hB
  obtain ⟨⟨hsel, hpl⟩, hp⟩ := hB
  have H := any_pureT (P := P) (md := .any) (Q := NoPanic Q) NoPanic_no hsel q p _ a w.drew hp h
  rw [hpl] at H
  exact wp_region_noPanic (wp_region_any hm H)
theorem tK {l : List Oper} {q : Plan} {a : Act} {w : World} {o : Oper} {r : List Oper} (hw : Region.wanted o (yielded l.toArray a.tmps) = true)
    (h : ∀ K : Act → Prop, (∀ a, wpPureT P l Q q r a w → K a) → ∃ v, (∀ x, Gives x v ((execOp a.eval o).run P x)) ∧ K (a.put o.dst v)) : wpPureT P l Q q (o :: r) a w := by
  obtain ⟨v, h1, h2⟩ := h _ (fun _ h => h)
  exact .inl ⟨hw, v, fun x => (h1 x).eq, h2⟩
theorem tStart {l : List Oper} {q : Plan} {a : Act} {w : World} (h : wpTree P l Q q a w) : wpPureT P l Q q [] a w := h
theorem tF {l : List Oper} {i : Nat} {p : Plan} {a : Act} {w : World} {o : Oper} (ho : nth l i = some o)
    (h : ∀ K : Act → World → Prop, (∀ a w, wpTree P l Q p a w → K a w) → wpList P l.toArray (fun e a' w' => match e with | .normal => K a' w' | e => Q e a' w') [o] a w) : wpTree P l Q (.f i p) a w := by
  have := h _ (fun _ _ h => h)
  unfold wpTree wpFree
  rw [ho]
  exact this
theorem tB {l : List Oper} {i j : Nat} {p q : Plan} {a : Act} {w : World} (h1 : wpTree P l Q (.f i p) a w) (h2 : wpTree P l Q (.f j q) a w) : wpTree P l Q (.b i p j q) a w := ⟨h1, h2⟩
theorem tDone {l : List Oper} {a : Act} {w : World} (h : Q .normal a w) : wpTree P l Q .done a w := h
end
end Rp
end Go.Proofs.YtmonkggoilhngaaGreatDoor
/- The law for a drawn region with a plan, where only what lies below block B stays as it was (what the call has made itself may turn). -/
namespace Go.Proofs.YtmonkggoilhngaaGreatDoor
open Go.RowKit Mem
namespace Rb
open Rp (Plan planB nth nth_eq Gives)
section
variable {P : Program} {ops : Array Oper} {md : Region.Mode} {Q : Exit → Act → World → Prop} {B : Nat}
end
section
variable {P : Program} {md : Region.Mode} {Q : Exit → Act → World → Prop} {B : Nat}
variable {l : List Oper} {tail : List Oper} {a : Act} {w : World} {o : Oper} {p q : Plan} {i j : Nat}
end
end Rb
end Go.Proofs.YtmonkggoilhngaaGreatDoor

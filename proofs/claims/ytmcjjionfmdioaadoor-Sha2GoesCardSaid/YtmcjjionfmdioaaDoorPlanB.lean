/- The law for a drawn region with a plan, where only what lies below block B stays as it was (what the call has made itself may turn). -/
import Derived.Test.YtmcjjionfmdioaaDoorPure
namespace Go.Proofs.YtmcjjionfmdioaaDoor
open Go.RowKit Mem
namespace Rb
open Rp (Plan planB nth nth_eq Gives)
/-- All that was there is as it was. -/
def Le (B : Nat) (w w' : World) : Prop := RowKit.Below B w w'
theorem Le.refl (B : Nat) (w : World) : Le B w w := RowKit.Below.refl _ _
theorem Le.trans {B : Nat} {a b c : World} (h1 : Le B a b) (h2 : Le B b c) : Le B a c := RowKit.Below.trans h1 h2
section
variable {P : Program} {ops : Array Oper} {md : Region.Mode} {Q : Exit → Act → World → Prop} {B : Nat}
/-- In this state the operation gives v in every later world, and leaves that world as it is. -/
def Steady (B : Nat) (P : Program) (ops : Array Oper) (o : Oper) (v : Value) (a : Act) (w : World) : Prop :=
  (Region.wanted o (yielded ops a.tmps) = true ∧ ∀ x, Le B w x → (execOp a.eval o).run P x = .ok (.value v) x) ∨
  (Region.wanted o (yielded ops a.tmps) = false ∧ v = undef)
theorem Steady.le {o : Oper} {v : Value} {a : Act} {w w' : World} (h : Steady B P ops o v a w) (hl : Le B w w') : Steady B P ops o v a w' := by
  rcases h with ⟨h1, h2⟩ | h
  · exact .inl ⟨h1, fun x hx => h2 x (hl.trans hx)⟩
  · exact .inr h
theorem Steady.of_same {o : Oper} {v : Value} {a a' : Act} {w : World} (hy : Steady B P ops o v a w) (he : execOp a'.eval o = execOp a.eval o)
    (hw : Region.wanted o (yielded ops a'.tmps) = Region.wanted o (yielded ops a.tmps)) : Steady B P ops o v a' w := by
  unfold Steady at *
  rw [he, hw]
  exact hy
theorem Steady.wpOp {i : Nat} {o : Oper} {v : Value} {a : Act} (hi : ops[i]? = some o) {K : Act → World → Prop} {w : World} (hy : Steady B P ops o v a w)
    (h : K (a.put o.dst v) w) : wpOp P ops Q i K a w := by
  unfold Go.wpOp
  simp only [hi]
  rcases hy with ⟨hw, hv⟩ | ⟨hw, rfl⟩
  · simp only [hw, if_true, Oper.wp, hv w (Le.refl B w), Oper.upon]; exact .inl h
  · simp only [hw, Bool.false_eq_true, if_false]; exact h
theorem wpOp_put {j : Nat} {oi oj : Oper} {v : Value} (hj : ops[j]? = some oj) (hap : oi.apart ops oj = true)
    (hsi : ∀ cs b, oi.op ≠ .select cs b) (hsj : ∀ cs b, oj.op ≠ .select cs b)
    (hQ : ∀ c a w, ¬ Q (.panic c) a w) {K : Act → World → Prop} {a : Act} {w x : World}
    (hy : Steady B P ops oi v a x) (h : wpOp P ops Q j K (a.put oi.dst v) w) :
    wpOp P ops Q j (fun a' w' => Steady B P ops oi v a' x ∧ K (a'.put oi.dst v) w') a w := by
  obtain ⟨h1, h2, h3⟩ := Oper.apart_spec hap
  have keep : ∀ (a : Act), Steady B P ops oi v a x → ∀ u, Steady B P ops oi v (a.put oj.dst u) x := fun a hy u =>
    hy.of_same (execOp_put oi hsi a oj.dst u h3) (wanted_put oi a oj.dst u h3)
  have keepD : ∀ d, Steady B P ops oi v { a with defers := d :: a.defers } x := fun d => hy.of_same rfl rfl
  unfold Go.wpOp at *
  simp only [hj] at *
  rw [wanted_put oj a oi.dst v h1] at h
  split
  · rename_i hw
    simp only [hw, if_true] at h
    rcases h with h | ⟨hasks, hlets⟩
    case inr => exact .inr ⟨by unfold Oper.asks at *; rw [execOp_put oj hsj a oi.dst v h1] at hasks; exact hasks, hlets⟩
    refine .inl ?_
    unfold Oper.wp at *
    rw [execOp_put oj hsj a oi.dst v h1] at h
    generalize (execOp a.eval oj).run P w = r at *
    cases r with
    | ok n w' =>
      cases n <;> simp only [Oper.upon] at h ⊢
      case value u => exact ⟨keep a hy u, by rw [← Act.put_comm a v u h2]; exact h⟩
      case skip => exact ⟨keep a hy _, by rw [← Act.put_comm a v undef h2]; exact h⟩
      case defer d =>
        refine ⟨keep _ (keepD d) _, ?_⟩
        rw [← Act.put_comm _ v undef h2, ← Act.put_defers]
        exact h
      case enter f args =>
        refine Calls.mono h fun e w'' he => ?_
        cases e with
        | returned u => exact ⟨keep a hy u, by rw [← Act.put_comm a v u h2]; exact he⟩
        | panicked c => exact absurd he (hQ _ _ _)
        | outgrown => exact he
      case row row args => exact Rows.mono h fun u w'' he => ⟨keep a hy u, by rw [← Act.put_comm a v u h2]; exact he⟩
    | halt y w' =>
      cases y <;> simp only [Oper.upon] at h ⊢
      case panic u => exact absurd h (hQ _ _ _)
  · rename_i hw
    simp only [hw] at h
    exact ⟨keep a hy _, by rw [← Act.put_comm a v undef h2]; exact h⟩
/-- Whatever order is picked; the first n operations leave all that was there as it was. -/
def anyB (B : Nat) (P : Program) (md : Region.Mode) (ops : Array Oper) (n : Nat) (Q : Exit → Act → World → Prop) : Nat → Array Bool → Act → World → Prop
  | 0, listed, a, w => Region.ready md ops listed = [] ∧ Q .normal a w
  | f + 1, listed, a, w =>
    (Region.ready md ops listed = [] → Q .normal a w) ∧
    ∀ i ∈ Region.ready md ops listed, wpOp P ops Q i (fun a' w' => (i < n → Le B w w') ∧ anyB B P md ops n Q f (listed.setIfInBounds i true) a' w') a w
theorem any_of {n : Nat} : ∀ (f : Nat) (listed : Array Bool) (a : Act) (w : World), anyB B P md ops n Q f listed a w → wpAny P md ops Q f listed a w
  | 0, _, _, _, h => h
  | f + 1, _, _, _, h => ⟨h.1, fun i hi => wpOp_mono (fun a' w' h' => any_of f _ a' w' h'.2) (h.2 i hi)⟩
theorem anyB_first {n i : Nat} {oi : Oper} {v : Value} (hi : ops[i]? = some oi) (hsel : ∀ (j : Nat) (o : Oper) cs b, ops[j]? = some o → o.op ≠ .select cs b)
    (hQ : ∀ c a w, ¬ Q (.panic c) a w) (hs : Region.sinkB md ops n = true) (hc : Region.chainB md ops n = true) (hn : n < ops.size) (hin : i < n) :
    ∀ (f : Nat) (listed : Array Bool) (a : Act) (w : World), HeadInv md ops n listed →
      (∀ j oj, ops[j]? = some oj → j ≠ i → listed.getD j true = false → (∀ e ∈ oj.after, Region.binds md e = true → e.on ≠ i) → oi.apart ops oj = true) →
      i ∈ Region.ready md ops listed → Steady B P ops oi v a w →
      anyB B P md ops n Q f (listed.setIfInBounds i true) (a.put oi.dst v) w → anyB B P md ops n Q (f + 1) listed a w := by
  intro f
  induction f with
  | zero =>
    intro listed a w _ _ hr hy H
    refine ⟨fun h => (by rw [h] at hr; cases hr), fun j hj => ?_⟩
    by_cases hji : j = i
    · subst hji; exact hy.wpOp hi ⟨fun _ => Le.refl B w, H⟩
    · have := ready_mono hj hji
      rw [H.1] at this
      cases this
  | succ f ih =>
    intro listed a w inv hfree hr hy H
    have hun := (mem_ready.1 hr).1
    refine ⟨fun h => (by rw [h] at hr; cases hr), fun j hj => ?_⟩
    by_cases hji : j = i
    · subst hji; exact hy.wpOp hi ⟨fun _ => Le.refl B w, H⟩
    · have hjn : j < n := by
        rcases Nat.lt_or_ge j n with h | h
        · exact h
        · exact absurd hj (tail_waits hs hc hn inv _ i rfl hin hun j h)
      have h1 := H.2 j (ready_mono hj hji)
      obtain ⟨hjun, oj, hoj, hall⟩ := mem_ready.1 hj
      have hnot : ∀ e ∈ oj.after, Region.binds md e = true → e.on ≠ i := fun e he hb heq => by
        have h1 := hall e he hb
        rw [heq, getD_both hun] at h1
        cases h1
      have h2 := wpOp_put hoj (hfree j oj hoj hji hjun hnot) (fun cs b => hsel i oi cs b hi) (fun cs b => hsel j oj cs b hoj) hQ hy h1
      have hfree' : ∀ k ok, ops[k]? = some ok → k ≠ i → (listed.setIfInBounds j true).getD k true = false →
          (∀ e ∈ ok.after, Region.binds md e = true → e.on ≠ i) → oi.apart ops ok = true := fun k ok hk hki hun hno => by
        refine hfree k ok hk hki ?_ hno
        by_cases hjk : j = k
        · subst hjk; exact hjun
        · rw [getD_set_ne true hjk] at hun; exact hun
      refine wpOp_mono (fun a' w' h3 => ⟨fun _ => h3.2.1 hjn, ih (listed.setIfInBounds j true) a' w' (inv.set hj hjn) hfree' (ready_mono hr (Ne.symm hji)) (h3.1.le (h3.2.1 hjn)) ?_⟩) h2
      rw [Array.setIfInBounds_comm _ _ hji]
      exact h3.2.2
theorem anyB_seq {n : Nat} : ∀ (l : List Oper) (k : Nat) (listed : Array Bool) (a : Act) (w : World), n ≤ k → (∀ j, l[j]? = ops[k + j]?) →
    Region.seqB md ops l.length k listed = true → wpList P ops Q l a w → anyB B P md ops n Q l.length listed a w
  | [], _, _, _, _, _, _, hB, h => ⟨by simpa [Region.seqB] using hB, h⟩
  | o :: l, k, listed, a, w, hk, hl, hB, h => by
    have h0 : ops[k]? = some o := by simpa using (hl 0).symm
    simp only [List.length_cons, Region.seqB, Bool.and_eq_true, decide_eq_true_eq] at hB
    refine ⟨fun h1 => (by rw [hB.1] at h1; cases h1), fun i hi => ?_⟩
    rw [hB.1] at hi
    have hik : i = k := by simpa using hi
    subst hik
    have hw : wpOp P ops Q i (wpList P ops Q l) a w := by unfold Go.wpOp; simp only [h0]; exact h
    exact wpOp_mono (fun a' w' h' => ⟨fun h => by omega, anyB_seq l (i + 1) _ a' w' (by omega) (fun j => by have := hl (j + 1); simpa [Nat.add_assoc, Nat.add_comm 1 j] using this) hB.2 h'⟩) hw
end
section
variable {P : Program} {md : Region.Mode} {Q : Exit → Act → World → Prop} {B : Nat}
/-- One forced operation. -/
def wpOne (B : Nat) (P : Program) (ops : Array Oper) (Q : Exit → Act → World → Prop) (o : Option Oper) (K : Act → World → Prop) (a : Act) (w : World) : Prop :=
  match o with
  | some o => wpList P ops (fun e a' w' => match e with | .normal => Le B w w' ∧ K a' w' | e => Q e a' w') [o] a w
  | none => False
def wpPlan (B : Nat) (P : Program) (l : List Oper) (Q : Exit → Act → World → Prop) (tail : List Oper) : Plan → Act → World → Prop
  | .done, a, w => wpList P l.toArray Q tail a w
  | .s i p, a, w => match nth l i with
    | some o => (Region.wanted o (yielded l.toArray a.tmps) = true ∧ ∃ v, (∀ x, Le B w x → (execOp a.eval o).run P x = .ok (.value v) x) ∧ wpPlan B P l Q tail p (a.put o.dst v) w) ∨
      (Region.wanted o (yielded l.toArray a.tmps) = false ∧ wpPlan B P l Q tail p (a.put o.dst undef) w)
    | none => False
  | .f i p, a, w => wpOne B P l.toArray Q (nth l i) (wpPlan B P l Q tail p) a w
  | .b i p j q, a, w => wpOne B P l.toArray Q (nth l i) (wpPlan B P l Q tail p) a w ∧ wpOne B P l.toArray Q (nth l j) (wpPlan B P l Q tail q) a w
theorem wpOne_op {l : List Oper} {i : Nat} {K : Act → World → Prop} {a : Act} {w : World} (hi : i < l.length) (h : wpOne B P l.toArray Q (nth l i) K a w) :
    wpOp P l.toArray Q i (fun a' w' => Le B w w' ∧ K a' w') a w := by
  obtain ⟨o, ho⟩ : ∃ o, l[i]? = some o := ⟨_, List.getElem?_eq_getElem hi⟩
  have ho' : l.toArray[i]? = some o := by simpa using ho
  rw [nth_eq, ho] at h
  unfold wpOne at h
  simp only at h
  unfold Go.wpOp
  simp only [ho']
  unfold wpList at h
  split
  · rename_i hw
    simp only [hw, if_true] at h
    rcases h with h2 | ⟨h2, h4⟩
    · refine .inl ?_
      unfold Oper.wp at h2 ⊢
      generalize (execOp a.eval o).run P w = res at *
      cases res with
      | ok nx w' =>
        cases nx <;> simp only [Oper.upon] at h2 ⊢ <;> exact h2
      | halt y w' => cases y <;> simp only [Oper.upon] at h2 ⊢ <;> exact h2
    · exact .inr ⟨h2, h4⟩
  · rename_i hw
    simp only [hw] at h
    exact h
theorem anyB_plan {l : List Oper} {n : Nat} (hQ : ∀ c a w, ¬ Q (.panic c) a w) (hsel : Region.noSelect l.toArray = true) (hs : Region.sinkB md l.toArray n = true) (hc : Region.chainB md l.toArray n = true) (hn : n < l.toArray.size) :
    ∀ (p : Plan) (listed : Array Bool) (a : Act) (w : World), HeadInv md l.toArray n listed → planB md l.toArray n p listed = true →
      wpPlan B P l Q (l.drop n) p a w → anyB B P md l.toArray n Q (p.size + (l.toArray.size - n)) listed a w
  | .done, listed, a, w, _, hB, h => by
    have hdl : (l.drop n).length = l.toArray.size - n := by simp
    have := anyB_seq (B := B) (P := P) (md := md) (Q := Q) (n := n) (ops := l.toArray) (l.drop n) n listed a w (Nat.le_refl _) (fun j => by simp [List.getElem?_drop]) (by rw [hdl]; exact hB) h
    simpa [hdl, Plan.size] using this
  | .s i p, listed, a, w, inv, hB, h => by
    simp only [planB, Bool.and_eq_true, decide_eq_true_eq] at hB
    obtain ⟨⟨hin, hr1, hr2⟩, hB'⟩ := hB
    have hil : i < l.length := by simp at hn; omega
    obtain ⟨o, ho⟩ : ∃ o, l[i]? = some o := ⟨_, List.getElem?_eq_getElem hil⟩
    have ho' : l.toArray[i]? = some o := by simpa using ho
    unfold wpPlan at h
    rw [nth_eq, ho] at h
    simp only at h
    rw [show (Plan.s i p).size + (l.toArray.size - n) = (p.size + (l.toArray.size - n)) + 1 by simp only [Plan.size]; omega]
    have hr1' : i ∈ Region.ready md l.toArray listed := by simpa using hr1
    have inv' := inv.set hr1' hin
    rcases h with ⟨hw, v, hv, hk⟩ | ⟨hw, hk⟩
    · exact anyB_first ho' (Region.noSelect_spec hsel) hQ hs hc hn hin _ listed a w inv (Region.free_spec ho' hr2) hr1' (.inl ⟨hw, hv⟩) (anyB_plan hQ hsel hs hc hn p _ _ _ inv' hB' hk)
    · exact anyB_first ho' (Region.noSelect_spec hsel) hQ hs hc hn hin _ listed a w inv (Region.free_spec ho' hr2) hr1' (.inr ⟨hw, rfl⟩) (anyB_plan hQ hsel hs hc hn p _ _ _ inv' hB' hk)
  | .f i p, listed, a, w, inv, hB, h => by
    simp only [planB, Bool.and_eq_true, decide_eq_true_eq] at hB
    obtain ⟨⟨hin, hr⟩, hB'⟩ := hB
    have hil : i < l.length := by simp at hn; omega
    have hr1' : i ∈ Region.ready md l.toArray listed := by rw [hr]; simp
    have inv' := inv.set hr1' hin
    rw [show (Plan.f i p).size + (l.toArray.size - n) = (p.size + (l.toArray.size - n)) + 1 by simp only [Plan.size]; omega]
    refine ⟨fun h0 => (by rw [hr] at h0; cases h0), fun k hk => ?_⟩
    rw [hr] at hk
    have hki : k = i := by simpa using hk
    subst hki
    exact wpOp_mono (fun a' w' h' => ⟨fun _ => h'.1, anyB_plan hQ hsel hs hc hn p _ _ _ inv' hB' h'.2⟩) (wpOne_op hil h)
  | .b i p j q, listed, a, w, inv, hB, h => by
    simp only [planB, Bool.and_eq_true, decide_eq_true_eq] at hB
    obtain ⟨⟨⟨⟨⟨hin, hjn⟩, hr⟩, hsz⟩, hB1⟩, hB2⟩ := hB
    have hil : i < l.length := by simp at hn; omega
    have hjl : j < l.length := by simp at hn; omega
    have hri : i ∈ Region.ready md l.toArray listed := by rw [hr]; simp
    have hrj : j ∈ Region.ready md l.toArray listed := by rw [hr]; simp
    rw [show (Plan.b i p j q).size + (l.toArray.size - n) = (p.size + (l.toArray.size - n)) + 1 by simp only [Plan.size]; omega]
    refine ⟨fun h0 => (by rw [hr] at h0; cases h0), fun k hk => ?_⟩
    rw [hr] at hk
    have hkij : k = i ∨ k = j := by simpa using hk
    rcases hkij with rfl | rfl
    · exact wpOp_mono (fun a' w' h' => ⟨fun _ => h'.1, anyB_plan hQ hsel hs hc hn p _ _ _ (inv.set hri hin) hB1 h'.2⟩) (wpOne_op hil h.1)
    · refine wpOp_mono (fun a' w' h' => ⟨fun _ => h'.1, ?_⟩) (wpOne_op hjl h.2)
      rw [hsz]
      exact anyB_plan hQ hsel hs hc hn q _ _ _ (inv.set hrj hjn) hB2 h'.2
/-- The region's law: 'p' is the plan for the first n operations, the rest stand behind them in the text's order. -/
theorem plan {id : Nat} {Q : Exit → Act → World → Prop} {a : Act} {w : World} {l : List Oper} (B : Nat) (n : Nat) (p : Plan) (hm : P.follows .mixedOrders = true)
    (hB : (Region.noSelect l.toArray && decide (n < l.toArray.size) && decide (p.size = n) && Region.sinkB .any l.toArray n && Region.chainB .any l.toArray n && planB .any l.toArray n p (Array.replicate l.toArray.size false)) = true)
    (h : wpPlan B P l (NoPanic Q) (l.drop n) p a w.drew) : (Code.region id l.toArray true).wp P Q a w := by
  simp only [Bool.and_eq_true, decide_eq_true_eq] at hB
  obtain ⟨⟨⟨⟨⟨hsel, hn⟩, hpl⟩, hs⟩, hc⟩, hp⟩ := hB
  have inv0 : HeadInv .any l.toArray n (Array.replicate l.toArray.size false) :=
    ⟨by simp, fun j oj _ hl => (by rw [getD_replicate_false] at hl; cases hl), fun t _ ht => getD_in (by simpa using ht) (getD_replicate_false _ _)⟩
  have H := anyB_plan (B := B) (P := P) (md := .any) (Q := NoPanic Q) Rp.NoPanic_no hsel hs hc hn p _ a w.drew inv0 hp h
  rw [show p.size + (l.toArray.size - n) = l.toArray.size by omega] at H
  exact wp_region_noPanic (wp_region_any hm (any_of _ _ _ _ H))
variable {l : List Oper} {tail : List Oper} {a : Act} {w : World} {o : Oper} {p q : Plan} {i j : Nat}
theorem pK (ho : nth l i = some o) (hw : Region.wanted o (yielded l.toArray a.tmps) = true)
    (h : ∀ K : Act → Prop, (∀ a, wpPlan B P l Q tail p a w → K a) → ∃ v, (∀ x, Le B w x → Gives x v ((execOp a.eval o).run P x)) ∧ K (a.put o.dst v)) : wpPlan B P l Q tail (.s i p) a w := by
  obtain ⟨v, h1, h2⟩ := h _ (fun _ h => h)
  unfold wpPlan
  rw [ho]
  exact .inl ⟨hw, v, fun x hx => (h1 x hx).eq, h2⟩
theorem pSkip (ho : nth l i = some o) (hw : Region.wanted o (yielded l.toArray a.tmps) = false)
    (h : ∀ K : Act → Prop, (∀ a, wpPlan B P l Q tail p a w → K a) → K (a.put o.dst undef)) : wpPlan B P l Q tail (.s i p) a w := by
  unfold wpPlan
  rw [ho]
  exact .inr ⟨hw, h _ (fun _ h => h)⟩
theorem pOne (ho : nth l i = some o) {K' : Act → World → Prop}
    (h : ∀ K : Act → World → Prop, (∀ a w', Le B w w' → K' a w' → K a w') → wpList P l.toArray (fun e a' w' => match e with | .normal => K a' w' | e => Q e a' w') [o] a w) : wpOne B P l.toArray Q (nth l i) K' a w := by
  unfold wpOne
  rw [ho]
  exact h _ (fun _ _ h1 h2 => ⟨h1, h2⟩)
theorem pF (ho : nth l i = some o)
    (h : ∀ K : Act → World → Prop, (∀ a w', Le B w w' → wpPlan B P l Q tail p a w' → K a w') → wpList P l.toArray (fun e a' w' => match e with | .normal => K a' w' | e => Q e a' w') [o] a w) : wpPlan B P l Q tail (.f i p) a w := pOne ho h
theorem pB (h1 : wpOne B P l.toArray Q (nth l i) (wpPlan B P l Q tail p) a w) (h2 : wpOne B P l.toArray Q (nth l j) (wpPlan B P l Q tail q) a w) : wpPlan B P l Q tail (.b i p j q) a w := ⟨h1, h2⟩
theorem pDone (h : wpList P l.toArray Q tail a w) : wpPlan B P l Q tail .done a w := h
theorem p_run (v : Value) (ho : nth l i = some o) (hw : Region.wanted o (yielded l.toArray a.tmps) = true) (hrun : ∀ x, Le B w x → (execOp a.eval o).run P x = .ok (.value v) x)
    (h : ∀ K : Act → Prop, (∀ a, wpPlan B P l Q tail p a w → K a) → K (a.put o.dst v)) : wpPlan B P l Q tail (.s i p) a w := by
  unfold wpPlan
  rw [ho]
  exact .inl ⟨hw, v, hrun, h _ (fun _ h => h)⟩
/-- string(b). -/
theorem p_str (ho : nth l i = some o) (hw : Region.wanted o (yielded l.toArray a.tmps) = true) (t ts : TypeId) (y : Operand) (ho' : o.op = .convert t ts y)
    (e : TypeId) (hts : P.underlying ts = some .string) (ht : P.underlying t = some (.slice e)) (he : P.underlying e = some (.int .u8))
    (v : Value) (n : Nat) (L : List UInt8) (hx : a.eval y = v) (hr : ∀ x, Le B w x → Rd x 1 v n (bys L))
    (h : ∀ K : Act → Prop, (∀ a, wpPlan B P l Q tail p a w → K a) → K (a.put o.dst (.string ⟨L.toArray⟩))) : wpPlan B P l Q tail (.s i p) a w :=
  p_run _ ho hw (fun x hx' => by
    have := run_conv_str (P := P) (hr x hx') ts t e hts ht he
    simp [execOp, ho', hx, this]) h
theorem row_le {w x : World} (hx : Le B w x) {g : Nat} {o : Obj} (hg : g < B) (h : w.heap[g]? = some o) : x.heap[g]? = some o := Rg.below_row hx hg h
theorem cell_le {w x : World} (hx : Le B w x) {p : Addr} {v : Value} (hp : p.block < B) (h : w.cell? p = some v) : x.cell? p = some v := (RowKit.Below.cell hx hp).trans h
end
end Rb
end Go.Proofs.YtmcjjionfmdioaaDoor

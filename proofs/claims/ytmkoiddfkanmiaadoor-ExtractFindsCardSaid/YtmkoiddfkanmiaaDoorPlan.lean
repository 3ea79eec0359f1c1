/- The law for a drawn region with a plan: as Rp.region, and where two operations may come first that both make memory, a walk for each. -/
import Derived.Test.YtmkoiddfkanmiaaDoorSt
namespace Go.Proofs.YtmkoiddfkanmiaaDoor
open Go.RowKit Mem
namespace Rp
inductive Plan where
  | done
  | s (i : Nat) (p : Plan)
  | f (i : Nat) (p : Plan)
  | b (i : Nat) (p : Plan) (j : Nat) (q : Plan)
section
variable {P : Program} {md : Region.Mode} {Q : Exit → Act → World → Prop}
def Plan.size : Plan → Nat
  | .done => 0
  | .s _ p => p.size + 1
  | .f _ p => p.size + 1
  | .b _ p _ _ => p.size + 1
def planB (md : Region.Mode) (ops : Array Oper) (n : Nat) : Plan → Array Bool → Bool
  | .done, listed => Region.seqB md ops (ops.size - n) n listed
  | .s i p, listed => decide (i < n) && ((Region.ready md ops listed).contains i && Region.free md ops listed i) && planB md ops n p (listed.setIfInBounds i true)
  | .f i p, listed => decide (i < n) && decide (Region.ready md ops listed = [i]) && planB md ops n p (listed.setIfInBounds i true)
  | .b i p j q, listed => decide (i < n) && decide (j < n) && decide (Region.ready md ops listed = [i, j]) && decide (p.size = q.size) && planB md ops n p (listed.setIfInBounds i true) && planB md ops n q (listed.setIfInBounds j true)
/-- One forced operation. -/
def wpOne (P : Program) (ops : Array Oper) (Q : Exit → Act → World → Prop) (o : Option Oper) (K : Act → World → Prop) (a : Act) (w : World) : Prop :=
  match o with
  | some o => wpList P ops (fun e a' w' => match e with | .normal => Le w w' ∧ K a' w' | e => Q e a' w') [o] a w
  | none => False
def wpPlan (P : Program) (l : List Oper) (Q : Exit → Act → World → Prop) (tail : List Oper) : Plan → Act → World → Prop
  | .done, a, w => wpList P l.toArray Q tail a w
  | .s i p, a, w => match nth l i with
    | some o => (Region.wanted o (yielded l.toArray a.tmps) = true ∧ ∃ v, (∀ x, Le w x → (execOp a.eval o).run P x = .ok (.value v) x) ∧ wpPlan P l Q tail p (a.put o.dst v) w) ∨
      (Region.wanted o (yielded l.toArray a.tmps) = false ∧ wpPlan P l Q tail p (a.put o.dst undef) w)
    | none => False
  | .f i p, a, w => wpOne P l.toArray Q (nth l i) (wpPlan P l Q tail p) a w
  | .b i p j q, a, w => wpOne P l.toArray Q (nth l i) (wpPlan P l Q tail p) a w ∧ wpOne P l.toArray Q (nth l j) (wpPlan P l Q tail q) a w
theorem wpOne_op {l : List Oper} {i : Nat} {K : Act → World → Prop} {a : Act} {w : World} (hi : i < l.length) (h : wpOne P l.toArray Q (nth l i) K a w) :
    wpOp P l.toArray Q i (fun a' w' => Le w w' ∧ K a' w') a w := by
  obtain ⟨o, ho⟩ : ∃ o, l[i]? = some o := ⟨_, List.getElem?_eq_getElem hi⟩
  have ho' : l.toArray[i]? = some o := by simpa using ho
  rw [nth_eq, ho] at h
  unfold wpOne at h
  simp only at h
  unfold Go.wpOp
  simp only [ho']
  unfold wpList at h
  split
  · rename_i hw
    simp only [hw, if_true] at h
    rcases h with h2 | ⟨h2, h4⟩
    · refine .inl ?_
      unfold Oper.wp at h2 ⊢
      generalize (execOp a.eval o).run P w = res at *
      cases res with
      | ok nx w' =>
        cases nx <;> simp only [Oper.upon] at h2 ⊢ <;> exact h2
      | halt y w' => cases y <;> simp only [Oper.upon] at h2 ⊢ <;> exact h2
    · exact .inr ⟨h2, h4⟩
  · rename_i hw
    simp only [hw] at h
    exact h
theorem anyB_plan {l : List Oper} {n : Nat} (hQ : ∀ c a w, ¬ Q (.panic c) a w) (hsel : Region.noSelect l.toArray = true) (hs : Region.sinkB md l.toArray n = true) (hc : Region.chainB md l.toArray n = true) (hn : n < l.toArray.size) :
    ∀ (p : Plan) (listed : Array Bool) (a : Act) (w : World), HeadInv md l.toArray n listed → planB md l.toArray n p listed = true →
      wpPlan P l Q (l.drop n) p a w → anyB P md l.toArray n Q (p.size + (l.toArray.size - n)) listed a w
  | .done, listed, a, w, _, hB, h => by
    have hdl : (l.drop n).length = l.toArray.size - n := by simp
    have := anyB_seq (P := P) (md := md) (Q := Q) (n := n) (ops := l.toArray) (l.drop n) n listed a w (Nat.le_refl _) (fun j => by simp [List.getElem?_drop]) (by rw [hdl]; exact hB) h
    simpa [hdl, Plan.size] using this
  | .s i p, listed, a, w, inv, hB, h => by
    simp only [planB, Bool.and_eq_true, decide_eq_true_eq] at hB
    obtain ⟨⟨hin, hr1, hr2⟩, hB'⟩ := hB
    have hil : i < l.length := by simp at hn; omega
    obtain ⟨o, ho⟩ : ∃ o, l[i]? = some o := ⟨_, List.getElem?_eq_getElem hil⟩
    have ho' : l.toArray[i]? = some o := by simpa using ho
    unfold wpPlan at h
    rw [nth_eq, ho] at h
    simp only at h
    rw [show (Plan.s i p).size + (l.toArray.size - n) = (p.size + (l.toArray.size - n)) + 1 by simp only [Plan.size]; omega]
    have hr1' : i ∈ Region.ready md l.toArray listed := by simpa using hr1
    have inv' := inv.set hr1' hin
    rcases h with ⟨hw, v, hv, hk⟩ | ⟨hw, hk⟩
    · exact anyB_first ho' (Region.noSelect_spec hsel) hQ hs hc hn hin _ listed a w inv (Region.free_spec ho' hr2) hr1' (.inl ⟨hw, hv⟩) (anyB_plan hQ hsel hs hc hn p _ _ _ inv' hB' hk)
    · exact anyB_first ho' (Region.noSelect_spec hsel) hQ hs hc hn hin _ listed a w inv (Region.free_spec ho' hr2) hr1' (.inr ⟨hw, rfl⟩) (anyB_plan hQ hsel hs hc hn p _ _ _ inv' hB' hk)
  | .f i p, listed, a, w, inv, hB, h => by
    simp only [planB, Bool.and_eq_true, decide_eq_true_eq] at hB
    obtain ⟨⟨hin, hr⟩, hB'⟩ := hB
    have hil : i < l.length := by simp at hn; omega
    have hr1' : i ∈ Region.ready md l.toArray listed := by rw [hr]; simp
    have inv' := inv.set hr1' hin
    rw [show (Plan.f i p).size + (l.toArray.size - n) = (p.size + (l.toArray.size - n)) + 1 by simp only [Plan.size]; omega]
    refine ⟨fun h0 => (by rw [hr] at h0; cases h0), fun k hk => ?_⟩
    rw [hr] at hk
    have hki : k = i := by simpa using hk
    subst hki
    exact wpOp_mono (fun a' w' h' => ⟨fun _ => h'.1, anyB_plan hQ hsel hs hc hn p _ _ _ inv' hB' h'.2⟩) (wpOne_op hil h)
  | .b i p j q, listed, a, w, inv, hB, h => by
    simp only [planB, Bool.and_eq_true, decide_eq_true_eq] at hB
    obtain ⟨⟨⟨⟨⟨hin, hjn⟩, hr⟩, hsz⟩, hB1⟩, hB2⟩ := hB
    have hil : i < l.length := by simp at hn; omega
    have hjl : j < l.length := by simp at hn; omega
    have hri : i ∈ Region.ready md l.toArray listed := by rw [hr]; simp
    have hrj : j ∈ Region.ready md l.toArray listed := by rw [hr]; simp
    rw [show (Plan.b i p j q).size + (l.toArray.size - n) = (p.size + (l.toArray.size - n)) + 1 by simp only [Plan.size]; omega]
    refine ⟨fun h0 => (by rw [hr] at h0; cases h0), fun k hk => ?_⟩
    rw [hr] at hk
    have hkij : k = i ∨ k = j := by simpa using hk
    rcases hkij with rfl | rfl
    · exact wpOp_mono (fun a' w' h' => ⟨fun _ => h'.1, anyB_plan hQ hsel hs hc hn p _ _ _ (inv.set hri hin) hB1 h'.2⟩) (wpOne_op hil h.1)
    · refine wpOp_mono (fun a' w' h' => ⟨fun _ => h'.1, ?_⟩) (wpOne_op hjl h.2)
      rw [hsz]
      exact anyB_plan hQ hsel hs hc hn q _ _ _ (inv.set hrj hjn) hB2 h'.2
/-- The region's law: 'p' is the plan for the first n operations, the rest stand behind them in the text's order. -/
theorem plan {id : Nat} {Q : Exit → Act → World → Prop} {a : Act} {w : World} {l : List Oper} (n : Nat) (p : Plan) (hm : P.follows .mixedOrders = true)
    (hB : (Region.noSelect l.toArray && decide (n < l.toArray.size) && decide (p.size = n) && Region.sinkB .any l.toArray n && Region.chainB .any l.toArray n && planB .any l.toArray n p (Array.replicate l.toArray.size false)) = true)
    (h : wpPlan P l (NoPanic Q) (l.drop n) p a w.drew) : (Code.region id l.toArray true).wp P Q a w := by
  simp only [Bool.and_eq_true, decide_eq_true_eq] at hB
  obtain ⟨⟨⟨⟨⟨hsel, hn⟩, hpl⟩, hs⟩, hc⟩, hp⟩ := hB
  have inv0 : HeadInv .any l.toArray n (Array.replicate l.toArray.size false) :=
    ⟨by simp, fun j oj _ hl => (by rw [getD_replicate_false] at hl; cases hl), fun t _ ht => getD_in (by simpa using ht) (getD_replicate_false _ _)⟩
  have H := anyB_plan (P := P) (md := .any) (Q := NoPanic Q) NoPanic_no hsel hs hc hn p _ a w.drew inv0 hp h
  rw [show p.size + (l.toArray.size - n) = l.toArray.size by omega] at H
  exact wp_region_noPanic (wp_region_any hm (any_of _ _ _ _ H))
variable {l : List Oper} {tail : List Oper} {a : Act} {w : World} {o : Oper} {p q : Plan} {i j : Nat}
theorem pK (ho : nth l i = some o) (hw : Region.wanted o (yielded l.toArray a.tmps) = true)
    (h : ∀ K : Act → Prop, (∀ a, wpPlan P l Q tail p a w → K a) → ∃ v, (∀ x, Le w x → Gives x v ((execOp a.eval o).run P x)) ∧ K (a.put o.dst v)) : wpPlan P l Q tail (.s i p) a w := by
  obtain ⟨v, h1, h2⟩ := h _ (fun _ h => h)
  unfold wpPlan
  rw [ho]
  exact .inl ⟨hw, v, fun x hx => (h1 x hx).eq, h2⟩
theorem pSkip (ho : nth l i = some o) (hw : Region.wanted o (yielded l.toArray a.tmps) = false)
    (h : ∀ K : Act → Prop, (∀ a, wpPlan P l Q tail p a w → K a) → K (a.put o.dst undef)) : wpPlan P l Q tail (.s i p) a w := by
  unfold wpPlan
  rw [ho]
  exact .inr ⟨hw, h _ (fun _ h => h)⟩
theorem pOne (ho : nth l i = some o) {K' : Act → World → Prop}
    (h : ∀ K : Act → World → Prop, (∀ a w', Le w w' → K' a w' → K a w') → wpList P l.toArray (fun e a' w' => match e with | .normal => K a' w' | e => Q e a' w') [o] a w) : wpOne P l.toArray Q (nth l i) K' a w := by
  unfold wpOne
  rw [ho]
  exact h _ (fun _ _ h1 h2 => ⟨h1, h2⟩)
theorem pF (ho : nth l i = some o)
    (h : ∀ K : Act → World → Prop, (∀ a w', Le w w' → wpPlan P l Q tail p a w' → K a w') → wpList P l.toArray (fun e a' w' => match e with | .normal => K a' w' | e => Q e a' w') [o] a w) : wpPlan P l Q tail (.f i p) a w := pOne ho h
theorem pB (h1 : wpOne P l.toArray Q (nth l i) (wpPlan P l Q tail p) a w) (h2 : wpOne P l.toArray Q (nth l j) (wpPlan P l Q tail q) a w) : wpPlan P l Q tail (.b i p j q) a w := ⟨h1, h2⟩
theorem pDone (h : wpList P l.toArray Q tail a w) : wpPlan P l Q tail .done a w := h
theorem p_run (v : Value) (ho : nth l i = some o) (hw : Region.wanted o (yielded l.toArray a.tmps) = true) (hrun : ∀ x, Le w x → (execOp a.eval o).run P x = .ok (.value v) x)
    (h : ∀ K : Act → Prop, (∀ a, wpPlan P l Q tail p a w → K a) → K (a.put o.dst v)) : wpPlan P l Q tail (.s i p) a w := by
  unfold wpPlan
  rw [ho]
  exact .inl ⟨hw, v, hrun, h _ (fun _ h => h)⟩
/-- s[:k]. -/
theorem p_cut (ho : nth l i = some o) (hw : Region.wanted o (yielded l.toArray a.tmps) = true) (t : TypeId) (y z : Operand) (ho' : o.op = .slice t y none (some z) none) (e : TypeId) (i0 : TypeInfo) (ht : P.underlying t = some (.slice e)) (hi : P.info? e = some i0)
    (q : Option Addr) (n c k : Nat) (hy : a.eval y = .slice q n c) (hz : a.eval z = .int .i64 (k : Int)) (hk : k ≤ c)
    (h : ∀ K : Act → Prop, (∀ a, wpPlan P l Q tail p a w → K a) → K (a.put o.dst (.slice q k c))) : wpPlan P l Q tail (.s i p) a w :=
  p_run _ ho hw (fun x _ => by
    have := run_cut (P := P) t e i0 ht hi q n c k hk x
    simp [execOp, ho', hy, hz, Instr.sliceAt, Sem.run_bind, run_underlying ht, this]) h
/-- string(b). -/
theorem p_str (ho : nth l i = some o) (hw : Region.wanted o (yielded l.toArray a.tmps) = true) (t ts : TypeId) (y : Operand) (ho' : o.op = .convert t ts y)
    (e : TypeId) (hts : P.underlying ts = some .string) (ht : P.underlying t = some (.slice e)) (he : P.underlying e = some (.int .u8))
    (v : Value) (n : Nat) (L : List UInt8) (hx : a.eval y = v) (hr : Rd w 1 v n (bys L))
    (h : ∀ K : Act → Prop, (∀ a, wpPlan P l Q tail p a w → K a) → K (a.put o.dst (.string ⟨L.toArray⟩))) : wpPlan P l Q tail (.s i p) a w :=
  p_run _ ho hw (fun x hx' => by
    have := run_conv_str (P := P) (hr.below hx') ts t e hts ht he
    simp [execOp, ho', hx, this]) h
end
/-- s[:k], outside of a drawn region. -/
theorem l_cut {P : Program} {ops : Array Oper} {Q : Exit → Act → World → Prop} {rest : List Oper} {o : Oper} {a : Act} {w : World} (hgd : o.guard = none) (t : TypeId) (y z : Operand) (ho' : o.op = .slice t y none (some z) none) (e : TypeId) (i0 : TypeInfo) (ht : P.underlying t = some (.slice e)) (hi : P.info? e = some i0)
    (q : Option Addr) (n c k : Nat) (hy : a.eval y = .slice q n c) (hz : a.eval z = .int .i64 (k : Int)) (hk : k ≤ c)
    (h : wpList P ops Q rest (a.put o.dst (.slice q k c)) w) : wpList P ops Q (o :: rest) a w :=
  wpList_plain hgd fun K hK => by
    have hrun := run_cut (P := P) t e i0 ht hi q n c k hk w
    unfold Oper.wp
    simp [execOp, ho', hy, hz, Instr.sliceAt, Sem.run_bind, run_underlying ht, hrun]
    exact hK _ _ h
end Rp
end Go.Proofs.YtmkoiddfkanmiaaDoor

/- A region that draws its order, walked once in an order of one's own choice: operations that change nothing and give one value in every later world are taken first; the rest stand in one order and may make memory. No condition beyond the Bool on the region's edges, which the kernel reckons. -/
import Derived.Test.YtmonkggoilhngaaGreatDoorGRegion
import Derived.Deep.RegionHeld3
import Derived.Lib.SlBytesConst
namespace Go.Proofs.YtmonkggoilhngaaGreatDoor
namespace Rp
def Le (w w' : World) : Prop := RowKit.Below w.heap.size w w'
theorem Le.refl (w : World) : Le w w := RowKit.Below.refl _ _
theorem Le.trans {a b c : World} (h1 : Le a b) (h2 : Le b c) : Le a c := RowKit.Below.trans h1 (RowKit.Below.mono h2 h1.size)
section
variable {P : Program} {ops : Array Oper} {md : Region.Mode} {Q : Exit → Act → World → Prop}
def Steady (P : Program) (ops : Array Oper) (o : Oper) (v : Value) (a : Act) (w : World) : Prop :=
  (Region.wanted o (yielded ops a.tmps) = true ∧ ∀ x, Le w x → (execOp a.eval o).run P x = .ok (.value v) x) ∨
  (Region.wanted o (yielded ops a.tmps) = false ∧ v = undef)
theorem Steady.le {o : Oper} {v : Value} {a : Act} {w w' : World} (h : Steady P ops o v a w) (hl : Le w w') : Steady P ops o v a w' := by
  rcases h with ⟨h1, h2⟩ | h
  · exact .inl ⟨h1, fun x hx => h2 x (hl.trans hx)⟩
  · exact .inr h
theorem Steady.of_same {o : Oper} {v : Value} {a a' : Act} {w : World} (hy : Steady P ops o v a w) (he : execOp a'.eval o = execOp a.eval o)
    (hw : Region.wanted o (yielded ops a'.tmps) = Region.wanted o (yielded ops a.tmps)) : Steady P ops o v a' w := by
  unfold Steady at *
  rw [he, hw]
  exact hy
theorem Steady.wpOp {i : Nat} {o : Oper} {v : Value} {a : Act} (hi : ops[i]? = some o) {K : Act → World → Prop} {w : World} (hy : Steady P ops o v a w)
    (h : K (a.put o.dst v) w) : wpOp P ops Q i K a w := by
  unfold Go.wpOp
  simp only [hi]
  rcases hy with ⟨hw, hv⟩ | ⟨hw, rfl⟩
  · simp only [hw, if_true, Oper.wp, hv w (Le.refl w), Oper.upon]; exact .inl h
  · simp only [hw, Bool.false_eq_true, if_false]; exact h
theorem wpOp_put {j : Nat} {oi oj : Oper} {v : Value} (hj : ops[j]? = some oj) (hap : oi.apart ops oj = true)
    (hsi : ∀ cs b, oi.op ≠ .select cs b) (hsj : ∀ cs b, oj.op ≠ .select cs b)
    (hQ : ∀ c a w, ¬ Q (.panic c) a w) {K : Act → World → Prop} {a : Act} {w x : World}
    (hy : Steady P ops oi v a x) (h : wpOp P ops Q j K (a.put oi.dst v) w) :
    wpOp P ops Q j (fun a' w' => Steady P ops oi v a' x ∧ K (a'.put oi.dst v) w') a w := by
  obtain ⟨h1, h2, h3⟩ := Oper.apart_spec hap
  have keep : ∀ (a : Act), Steady P ops oi v a x → ∀ u, Steady P ops oi v (a.put oj.dst u) x := fun a hy u =>
    hy.of_same (execOp_put oi hsi a oj.dst u h3) (wanted_put oi a oj.dst u h3)
  have keepD : ∀ d, Steady P ops oi v { a with defers := d :: a.defers } x := fun d => hy.of_same rfl rfl
  unfold Go.wpOp at *
  simp only [hj] at *
  rw [wanted_put oj a oi.dst v h1] at h
  split
  · rename_i hw
    simp only [hw, if_true] at h
    rcases h with h | ⟨hasks, hlets⟩
    case inr => exact .inr ⟨by unfold Oper.asks at *; rw [execOp_put oj hsj a oi.dst v h1] at hasks; exact hasks, hlets⟩
    refine .inl ?_
    unfold Oper.wp at *
    rw [execOp_put oj hsj a oi.dst v h1] at h
    generalize (execOp a.eval oj).run P w = r at *
    cases r with
    | ok n w' =>
      cases n <;> simp only [Oper.upon] at h ⊢
      case value u => exact ⟨keep a hy u, by rw [← Act.put_comm a v u h2]; exact h⟩
      case skip => exact ⟨keep a hy _, by rw [← Act.put_comm a v undef h2]; exact h⟩
      case defer d =>
        refine ⟨keep _ (keepD d) _, ?_⟩
        rw [← Act.put_comm _ v undef h2, ← Act.put_defers]
        exact h
      case enter f args =>
        refine Calls.mono h fun e w'' he => ?_
        cases e with
        | returned u => exact ⟨keep a hy u, by rw [← Act.put_comm a v u h2]; exact he⟩
        | panicked c => exact absurd he (hQ _ _ _)
        | outgrown => exact he
      case row row args => exact Rows.mono h fun u w'' he => ⟨keep a hy u, by rw [← Act.put_comm a v u h2]; exact he⟩
    | halt y w' =>
      cases y <;> simp only [Oper.upon] at h ⊢
      case panic u => exact absurd h (hQ _ _ _)
  · rename_i hw
    simp only [hw] at h
    exact ⟨keep a hy _, by rw [← Act.put_comm a v undef h2]; exact h⟩
def anyB (P : Program) (md : Region.Mode) (ops : Array Oper) (n : Nat) (Q : Exit → Act → World → Prop) : Nat → Array Bool → Act → World → Prop
  | 0, listed, a, w => Region.ready md ops listed = [] ∧ Q .normal a w
  | f + 1, listed, a, w =>
    (Region.ready md ops listed = [] → Q .normal a w) ∧
    ∀ i ∈ Region.ready md ops listed, wpOp P ops Q i (fun a' w' => (i < n → Le w w') ∧ anyB P md ops n Q f (listed.setIfInBounds i true) a' w') a w
theorem any_of {n : Nat} : ∀ (f : Nat) (listed : Array Bool) (a : Act) (w : World), anyB P md ops n Q f listed a w → wpAny P md ops Q f listed a w
  | 0, _, _, _, h => h
  | f + 1, _, _, _, h => ⟨h.1, fun i hi => wpOp_mono (fun a' w' h' => any_of f _ a' w' h'.2) (h.2 i hi)⟩
theorem anyB_first {n i : Nat} {oi : Oper} {v : Value} (hi : ops[i]? = some oi) (hsel : ∀ (j : Nat) (o : Oper) cs b, ops[j]? = some o → o.op ≠ .select cs b)
    (hQ : ∀ c a w, ¬ Q (.panic c) a w) (hs : Region.sinkB md ops n = true) (hc : Region.chainB md ops n = true) (hn : n < ops.size) (hin : i < n) :
    ∀ (f : Nat) (listed : Array Bool) (a : Act) (w : World), HeadInv md ops n listed →
      (∀ j oj, ops[j]? = some oj → j ≠ i → listed.getD j true = false → (∀ e ∈ oj.after, Region.binds md e = true → e.on ≠ i) → oi.apart ops oj = true) →
      i ∈ Region.ready md ops listed → Steady P ops oi v a w →
      anyB P md ops n Q f (listed.setIfInBounds i true) (a.put oi.dst v) w → anyB P md ops n Q (f + 1) listed a w := by
  intro f
  induction f with
  | zero =>
    intro listed a w _ _ hr hy H
    refine ⟨fun h => (by rw [h] at hr; cases hr), fun j hj => ?_⟩
    by_cases hji : j = i
    · subst hji; exact hy.wpOp hi ⟨fun _ => Le.refl w, H⟩
    · have := ready_mono hj hji
      rw [H.1] at this
      cases this
  | succ f ih =>
    intro listed a w inv hfree hr hy H
    have hun := (mem_ready.1 hr).1
    refine ⟨fun h => (by rw [h] at hr; cases hr), fun j hj => ?_⟩
    by_cases hji : j = i
    · subst hji; exact hy.wpOp hi ⟨fun _ => Le.refl w, H⟩
    · have hjn : j < n := by
        rcases Nat.lt_or_ge j n with h | h
        · exact h
        · exact absurd hj (tail_waits hs hc hn inv _ i rfl hin hun j h)
      have h1 := H.2 j (ready_mono hj hji)
      obtain ⟨hjun, oj, hoj, hall⟩ := mem_ready.1 hj
      have hnot : ∀ e ∈ oj.after, Region.binds md e = true → e.on ≠ i := fun e he hb heq => by
        have h1 := hall e he hb
        rw [heq, getD_both hun] at h1
        cases h1
      have h2 := wpOp_put hoj (hfree j oj hoj hji hjun hnot) (fun cs b => hsel i oi cs b hi) (fun cs b => hsel j oj cs b hoj) hQ hy h1
      have hfree' : ∀ k ok, ops[k]? = some ok → k ≠ i → (listed.setIfInBounds j true).getD k true = false →
          (∀ e ∈ ok.after, Region.binds md e = true → e.on ≠ i) → oi.apart ops ok = true := fun k ok hk hki hun hno => by
        refine hfree k ok hk hki ?_ hno
        by_cases hjk : j = k
        · subst hjk; exact hjun
        · rw [getD_set_ne true hjk] at hun; exact hun
      refine wpOp_mono (fun a' w' h3 => ⟨fun _ => h3.2.1 hjn, ih (listed.setIfInBounds j true) a' w' (inv.set hj hjn) hfree' (ready_mono hr (Ne.symm hji)) (h3.1.le (h3.2.1 hjn)) ?_⟩) h2
      rw [Array.setIfInBounds_comm _ _ hji]
      exact h3.2.2
theorem anyB_seq {n : Nat} : ∀ (l : List Oper) (k : Nat) (listed : Array Bool) (a : Act) (w : World), n ≤ k → (∀ j, l[j]? = ops[k + j]?) →
    Region.seqB md ops l.length k listed = true → wpList P ops Q l a w → anyB P md ops n Q l.length listed a w
  | [], _, _, _, _, _, _, hB, h => ⟨by simpa [Region.seqB] using hB, h⟩
  | o :: l, k, listed, a, w, hk, hl, hB, h => by
    have h0 : ops[k]? = some o := by simpa using (hl 0).symm
    simp only [List.length_cons, Region.seqB, Bool.and_eq_true, decide_eq_true_eq] at hB
    refine ⟨fun h1 => (by rw [hB.1] at h1; cases h1), fun i hi => ?_⟩
    rw [hB.1] at hi
    have hik : i = k := by simpa using hi
    subst hik
    have hw : wpOp P ops Q i (wpList P ops Q l) a w := by unfold Go.wpOp; simp only [h0]; exact h
    exact wpOp_mono (fun a' w' h' => ⟨fun h => by omega, anyB_seq l (i + 1) _ a' w' (by omega) (fun j => by have := hl (j + 1); simpa [Nat.add_assoc, Nat.add_comm 1 j] using this) hB.2 h'⟩) hw
def permB (md : Region.Mode) (ops : Array Oper) (n : Nat) : List (Nat × Bool) → Array Bool → Bool
  | [], listed => Region.seqB md ops (ops.size - n) n listed
  | (i, s) :: r, listed => decide (i < n) && (if s then (Region.ready md ops listed).contains i && Region.free md ops listed i else decide (Region.ready md ops listed = [i])) && permB md ops n r (listed.setIfInBounds i true)
def nth : List Oper → Nat → Option Oper
  | [], _ => none
  | o :: _, 0 => some o
  | _ :: l, k + 1 => nth l k
theorem nth_eq : ∀ (l : List Oper) (k : Nat), nth l k = l[k]?
  | [], _ => rfl
  | _ :: _, 0 => rfl
  | _ :: l, k + 1 => by rw [nth, nth_eq l k]; simp
def pick (l : List Oper) : List (Nat × Bool) → List (Oper × Bool)
  | [] => []
  | (i, s) :: r => match nth l i with
    | some o => (o, s) :: pick l r
    | none => []
def wpPerm (P : Program) (ops : Array Oper) (Q : Exit → Act → World → Prop) (tail : List Oper) : List (Oper × Bool) → Act → World → Prop
  | [], a, w => wpList P ops Q tail a w
  | (o, true) :: r, a, w => (Region.wanted o (yielded ops a.tmps) = true ∧ ∃ v, (∀ x, Le w x → (execOp a.eval o).run P x = .ok (.value v) x) ∧ wpPerm P ops Q tail r (a.put o.dst v) w) ∨
      (Region.wanted o (yielded ops a.tmps) = false ∧ wpPerm P ops Q tail r (a.put o.dst undef) w)
  | (o, false) :: r, a, w => wpList P ops (fun e a' w' => match e with | .normal => Le w w' ∧ wpPerm P ops Q tail r a' w' | e => Q e a' w') [o] a w
theorem anyB_perm {l : List Oper} {n : Nat} (hQ : ∀ c a w, ¬ Q (.panic c) a w) (hsel : Region.noSelect l.toArray = true) (hs : Region.sinkB md l.toArray n = true) (hc : Region.chainB md l.toArray n = true) (hn : n < l.toArray.size) :
    ∀ (p : List (Nat × Bool)) (listed : Array Bool) (a : Act) (w : World), HeadInv md l.toArray n listed → permB md l.toArray n p listed = true →
      wpPerm P l.toArray Q (l.drop n) (pick l p) a w → anyB P md l.toArray n Q (p.length + (l.toArray.size - n)) listed a w
  | [], listed, a, w, _, hB, h => by
    have hdl : (l.drop n).length = l.toArray.size - n := by simp
    have := anyB_seq (P := P) (md := md) (Q := Q) (n := n) (ops := l.toArray) (l.drop n) n listed a w (Nat.le_refl _) (fun j => by simp [List.getElem?_drop]) (by rw [hdl]; exact hB) h
    simpa [hdl] using this
  | (i, s) :: r, listed, a, w, inv, hB, h => by
    simp only [permB, Bool.and_eq_true, decide_eq_true_eq] at hB
    obtain ⟨⟨hin, hr⟩, hB'⟩ := hB
    have hil : i < l.length := by simp at hn; omega
    obtain ⟨o, ho⟩ : ∃ o, l[i]? = some o := ⟨_, List.getElem?_eq_getElem hil⟩
    have ho' : l.toArray[i]? = some o := by simpa using ho
    have hpick : pick l ((i, s) :: r) = (o, s) :: pick l r := by simp only [pick, nth_eq, ho]
    rw [hpick] at h
    rw [show ((i, s) :: r).length + (l.toArray.size - n) = (r.length + (l.toArray.size - n)) + 1 by simp; omega]
    cases s with
    | true =>
      simp only [if_true, Bool.and_eq_true] at hr
      obtain ⟨hr1, hr2⟩ := hr
      have hr1' : i ∈ Region.ready md l.toArray listed := by simpa using hr1
      have inv' := inv.set hr1' hin
      rcases h with ⟨hw, v, hv, hk⟩ | ⟨hw, hk⟩
      · exact anyB_first ho' (Region.noSelect_spec hsel) hQ hs hc hn hin _ listed a w inv (Region.free_spec ho' hr2) hr1' (.inl ⟨hw, hv⟩) (anyB_perm hQ hsel hs hc hn r _ _ _ inv' hB' hk)
      · exact anyB_first ho' (Region.noSelect_spec hsel) hQ hs hc hn hin _ listed a w inv (Region.free_spec ho' hr2) hr1' (.inr ⟨hw, rfl⟩) (anyB_perm hQ hsel hs hc hn r _ _ _ inv' hB' hk)
    | false =>
      simp only [Bool.false_eq_true, if_false, decide_eq_true_eq] at hr
      have hr1' : i ∈ Region.ready md l.toArray listed := by rw [hr]; simp
      have inv' := inv.set hr1' hin
      refine ⟨fun h0 => (by rw [hr] at h0; cases h0), fun k hk => ?_⟩
      rw [hr] at hk
      have hki : k = i := by simpa using hk
      subst hki
      have h2 : wpOp P l.toArray (fun e a' w' => match e with | .normal => Le w w' ∧ wpPerm P l.toArray Q (l.drop n) (pick l r) a' w' | e => Q e a' w') k (fun a' w' => Le w w' ∧ wpPerm P l.toArray Q (l.drop n) (pick l r) a' w') a w := by
        unfold Go.wpOp; simp only [ho']; exact h
      have h3 : wpOp P l.toArray Q k (fun a' w' => Le w w' ∧ wpPerm P l.toArray Q (l.drop n) (pick l r) a' w') a w := by
        unfold Go.wpOp at h2 ⊢
        simp only [ho'] at h2 ⊢
        split
        · rename_i hw
          simp only [hw, if_true] at h2
          rcases h2 with h2 | ⟨h2, h4⟩
          · refine .inl ?_
            unfold Oper.wp at h2 ⊢
            generalize (execOp a.eval o).run P w = res at *
            cases res with
            | ok nx w' =>
              cases nx <;> simp only [Oper.upon] at h2 ⊢ <;> exact h2
            | halt y w' => cases y <;> simp only [Oper.upon] at h2 ⊢ <;> exact h2
          · exact .inr ⟨h2, h4⟩
        · rename_i hw
          simp only [hw] at h2
          exact h2
      exact wpOp_mono (fun a' w' h' => ⟨fun _ => h'.1, anyB_perm hQ hsel hs hc hn r _ _ _ inv' hB' h'.2⟩) h3
theorem NoPanic_no {Q : Exit → Act → World → Prop} : ∀ c a w, ¬ NoPanic Q (.panic c) a w := fun _ _ _ h => h
theorem region {id : Nat} {Q : Exit → Act → World → Prop} {a : Act} {w : World} {l : List Oper} (n : Nat) (p : List (Nat × Bool)) (hm : P.follows .mixedOrders = true)
    (hB : (Region.noSelect l.toArray && decide (n < l.toArray.size) && decide (p.length = n) && Region.sinkB .any l.toArray n && Region.chainB .any l.toArray n && permB .any l.toArray n p (Array.replicate l.toArray.size false)) = true)
    (h : wpPerm P l.toArray (NoPanic Q) (l.drop n) (pick l p) a w.drew) : (Code.region id l.toArray true).wp P Q a w := by
  simp only [Bool.and_eq_true, decide_eq_true_eq] at hB
  obtain ⟨⟨⟨⟨⟨hsel, hn⟩, hpl⟩, hs⟩, hc⟩, hp⟩ := hB
  have inv0 : HeadInv .any l.toArray n (Array.replicate l.toArray.size false) :=
    ⟨by simp, fun j oj _ hl => (by rw [getD_replicate_false] at hl; cases hl), fun t _ ht => getD_in (by simpa using ht) (getD_replicate_false _ _)⟩
  have H := anyB_perm (P := P) (md := .any) (Q := NoPanic Q) NoPanic_no hsel hs hc hn p _ a w.drew inv0 hp h
  rw [show p.length + (l.toArray.size - n) = l.toArray.size by omega] at H
  exact wp_region_noPanic (wp_region_any hm (any_of _ _ _ _ H))
def Gives (x : World) (v : Value) : Result Next → Prop
  | .ok (.value u) w' => w' = x ∧ u = v
  | _ => False
@[go_sem] theorem gives_ok {x w' : World} {u v : Value} : Gives x v (.ok (.value u) w') = (w' = x ∧ u = v) := rfl
theorem Gives.eq {x : World} {v : Value} : ∀ {r : Result Next}, Gives x v r → r = .ok (.value v) x
  | .ok (.value _) _, h => by obtain ⟨rfl, rfl⟩ := h; rfl
theorem cell_le {w x : World} (hx : Le w x) {p : Addr} {v : Value} (h : w.cell? p = some v) : x.cell? p = some v := by
  have hb : p.block < w.heap.size := by
    rcases Nat.lt_or_ge p.block w.heap.size with h' | h'
    · exact h'
    · unfold World.cell? at h
      simp [Array.getElem?_eq_none h'] at h
  exact (RowKit.Below.cell hx hb).trans h
theorem row_le {w x : World} (hx : Le w x) {g : Nat} {o : Obj} (h : w.heap[g]? = some o) : x.heap[g]? = some o :=
  Rg.below_row hx (Array.getElem?_eq_some_iff.1 h).1 h
theorem stepK {tail : List Oper} {a : Act} {w : World} {o : Oper} {r : List (Oper × Bool)} (hw : Region.wanted o (yielded ops a.tmps) = true)
    (h : ∀ K : Act → Prop, (∀ a, wpPerm P ops Q tail r a w → K a) → ∃ v, (∀ x, Le w x → Gives x v ((execOp a.eval o).run P x)) ∧ K (a.put o.dst v)) : wpPerm P ops Q tail ((o, true) :: r) a w := by
  obtain ⟨v, h1, h2⟩ := h _ (fun _ h => h)
  exact .inl ⟨hw, v, fun x hx => (h1 x hx).eq, h2⟩
theorem stepF {tail : List Oper} {a : Act} {w : World} {o : Oper} {r : List (Oper × Bool)}
    (h : ∀ K : Act → World → Prop, (∀ a w', Le w w' → wpPerm P ops Q tail r a w' → K a w') → wpList P ops (fun e a' w' => match e with | .normal => K a' w' | e => Q e a' w') [o] a w) : wpPerm P ops Q tail ((o, false) :: r) a w := 
  h _ (fun _ _ h1 h2 => ⟨h1, h2⟩)
theorem done {tail : List Oper} {a : Act} {w : World} (h : wpList P ops Q tail a w) : wpPerm P ops Q tail [] a w := h
end
end Rp
end Go.Proofs.YtmonkggoilhngaaGreatDoor
/- Steps of a drawn region that only yield: cuts of slices, strings of bytes; own slices of own slices. Conditions: the bounds that append has in the model. -/
namespace Go.Proofs.YtmonkggoilhngaaGreatDoor
open Go.RowKit Mem
namespace Rp
section
variable {P : Program} {ops : Array Oper} {Q : Exit → Act → World → Prop} {tail : List Oper} {a : Act} {w : World} {o : Oper} {r : List (Oper × Bool)}
theorem add_zero (p : Addr) : p.add 0 = p := rfl
theorem run_cut (t e : TypeId) (i : TypeInfo) (ht : P.underlying t = some (.slice e)) (hi : P.info? e = some i) (q : Option Addr) (n c k : Nat) (hk : k ≤ c) (x : World) :
    (Instr.slice t (.slice q n c) none (some (.int .i64 (k : Int))) none).run P x = .ok (.slice q k c) x := by
  have e0 : (if c = 0 then q else Option.map (fun p : Addr => p.add 0) q) = q := by
    split
    · rfl
    · cases q <;> rfl
  simp [Instr.slice, Instr.sliceBounds, Instr.sliceBound, asIntOf, Sem.run_bind, run_underlying ht, sizeOf, typeInfo, hi, hk, e0]
end
end Rp
namespace Mem
section
variable {w w' : World} {base size n m : Nat} {e : TypeId} {v x : Value} {xs news : List Value}
theorem Rd_take {q : Option Addr} {c k : Nat} {l : List UInt8} (h : Rd w 1 (.slice q n c) n (bys l)) (hk : k ≤ n) : Rd w 1 (.slice q k c) k (bys (l.take k)) := by
  obtain ⟨h1, h2⟩ := h
  rw [bys_length] at h1
  refine ⟨by rw [bys_length, List.length_take]; omega, ?_⟩
  rcases h2 with ⟨hv, h0⟩ | ⟨b, off, cap, hv, hb, hnc, hcm, hc⟩
  · cases hv; exact .inl ⟨by rw [show k = 0 by omega], by omega⟩
  · cases hv
    refine .inr ⟨b, off, c, rfl, hb, by omega, hcm, fun j u hu => hc j u ?_⟩
    rw [← hu]
    have hj := (List.getElem?_eq_some_iff.1 hu).1
    rw [bys_length, List.length_take] at hj
    simp only [bys, List.getElem?_map, List.getElem?_take]
    rw [if_pos (by omega)]
theorem Rd_cap {q : Option Addr} {c : Nat} (h : Rd w size (.slice q n c) n xs) : n ≤ c ∧ c ≤ maxLen := by
  rcases h.2 with ⟨hv, h0⟩ | ⟨b, off, cap, hv, hb, hnc, hcm, hc⟩
  · cases hv; exact ⟨by omega, by unfold maxLen; omega⟩
  · cases hv; exact ⟨hnc, hcm⟩
theorem Ow_apart {e' : TypeId} {size' n' : Nat} {ys : List Value} {base' : Nat} (h : Ow w base e size v n xs) (h' : Ow w base' e' size' x n' ys) (hne : e ≠ e') : ∀ b, x.ownBlock = some b → v.ownBlock ≠ some b := by
  intro b hb hv
  rcases h.2 with ⟨rfl, _⟩ | ⟨g, cap, cur, fz, rfl, _, hg, _⟩
  · cases hv
  · rcases h'.2 with ⟨rfl, _⟩ | ⟨g', cap', cur', fz', rfl, _, hg', _⟩
    · cases hb
    · cases hv; cases hb
      rw [hg] at hg'
      injection hg' with hg'
      injection hg' with _ ht _
      exact hne ht
theorem Ow.base_le {base' : Nat} (h : Ow w base e size v n xs) (hb : base' ≤ base) : Ow w base' e size v n xs := by
  refine ⟨h.1, ?_⟩
  rcases h.2 with h' | ⟨g, cap, cur, fz, hv, hg, rest⟩
  · exact .inl h'
  · exact .inr ⟨g, cap, cur, fz, hv, by omega, rest⟩
end
end Mem
end Go.Proofs.YtmonkggoilhngaaGreatDoor

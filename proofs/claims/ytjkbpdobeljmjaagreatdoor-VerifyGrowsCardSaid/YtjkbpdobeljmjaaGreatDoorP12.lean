/- A part of the proof. Plain; no condition. -/
import Derived.Test.YtjkbpdobeljmjaaGreatDoorP11
import Derived.Test.YtjkbpdobeljmjaaGreatDoorP7
import Derived.Laws.StructEq
import Derived.Stop.BytesEq
/- A sum stored into a row of sums of one's own; slices.Reverse on rows of sums. -/
namespace Go.Proofs.YtjkbpdobeljmjaaGreatDoor
open Go.RowKit Bits Mem Sha
namespace Ref
theorem All32.set {L : List (List UInt8)} (h : All32 L) (k : Nat) {y : List UInt8} (hy : y.length = 32) : All32 (L.set k y) := fun x hx => by
  rcases List.mem_or_eq_of_mem_set hx with h' | h'
  · exact h x h'
  · rw [h']; exact hy
theorem frozen_row {w : World} {g j : Nat} {c : Array Value} {e : TypeId} {fz : Nat × Nat} (hg : w.heap[g]? = some (.cells c e fz)) (h : ¬ (fz.1 ≤ j ∧ j < fz.2)) : w.frozen? ⟨g, j, none⟩ = false := by
  unfold World.frozen?
  rw [hg]
  simp
  omega
theorem OwL.store {w : World} {base g c k : Nat} {O : List (List UInt8)} {y : List UInt8} (h : OwL w base (.slice (some ⟨g, 0, none⟩) O.length c) O) (hk : k < O.length) (hy : y.length = 32) :
    (storeVar 22 ⟨g, k * 32, none⟩ (.agg (bysA y))).run Tryz.prog w = .ok () (w.setCells g (k * 32) (bys y)) ∧
    OwL (w.setCells g (k * 32) (bys y)) base (.slice (some ⟨g, 0, none⟩) O.length c) (O.set k y) ∧ w.grownBy (w.setCells g (k * 32) (bys y)) (some g) := by
  obtain ⟨h1, h2⟩ := h.2
  rcases h2 with ⟨hv, _⟩ | ⟨g', cap, cur, fz, hv, hb, hg, hf, hnc, hcm, hcs, ht⟩
  · cases hv
  · cases hv
    have hle : O.length * 32 ≤ c * 32 := Nat.mul_le_mul_right _ hnc
    have hbl : (bys y).length = 32 := by rw [bys_length, hy]
    obtain ⟨cur', h3, h4, h5, h6⟩ := setCells_block g _ fz (bys y) (k * 32) w cur hg
    have hthere : w.there g (k * 32) (bysA y).size := fun j hj => by
      rw [bysA_size, hy] at hj
      refine ⟨?_, frozen_row hg (hf _ (by omega))⟩
      rw [cell_of_row w g _ _ _ _ hg, Array.getElem?_eq_getElem (by omega)]
      rfl
    refine ⟨run_storeVar_mid w g (k * 32) _ (bysA y) hthere (by rw [bysA_size, hy]; exact info32) (by
      rw [Array.all_eq_true_iff_forall_mem]
      intro u hu
      exact bys_one y u (by simpa [bysA] using hu)), ⟨h.1.set k hy, ?_⟩, h6⟩
    have hal := h.1.set k hy
    have hfl := hal.flat
    rw [List.length_set] at hfl ⊢
    refine ⟨by rw [bys_length, hfl], .inr ⟨g, c, cur', fz, rfl, hb, h3, by rw [h4]; exact hf, hnc, hcm, by rw [h4]; exact hcs, ?_⟩⟩
    refine List.ext_getElem? fun j => ?_
    rw [List.getElem?_take]
    by_cases hj : j < O.length * 32
    · rw [if_pos hj, Array.getElem?_toList, h5 j]
      obtain ⟨a, r, hr, rfl⟩ : ∃ a r, r < 32 ∧ j = a * 32 + r := ⟨j / 32, j % 32, Nat.mod_lt _ (by decide), by omega⟩
      have ha : a < O.length := by omega
      have e1 := flat_get a hal (by rw [List.length_set]; exact ha) r hr
      have e0 := flat_get a h.1 ha r hr
      unfold bys at ht ⊢
      rw [show (List.map (fun b : UInt8 => Value.int .u8 (b.toNat : Int)) (O.set k y).flatten)[a * 32 + r]? = Option.map (fun b : UInt8 => Value.int .u8 (b.toNat : Int)) (((O.set k y).getD a [])[r]?) from by rw [List.getElem?_map, e1]]
      by_cases hak : a = k
      · subst hak
        rw [if_pos (by simp [hy]; omega)]
        have : (O.set a y).getD a [] = y := by simp [List.getD, ha]
        rw [this, List.getElem?_map, show a * 32 + r - a * 32 = r by omega]
      · rw [if_neg (by simp [hy]; omega)]
        have : (O.set k y).getD a [] = O.getD a [] := by simp [List.getD, List.getElem?_set_ne (fun e => hak e.symm)]
        rw [this, ← e0, ← List.getElem?_map, ← ht, List.getElem?_take, if_pos hj, Array.getElem?_toList]
    · rw [if_neg hj, List.getElem?_eq_none (by rw [bys_length, hfl]; omega)]
end Ref
end Go.Proofs.YtjkbpdobeljmjaaGreatDoor

/- A drawn region: operations that look at no memory are taken first, the rest come in the orders of a plan with branches, and may do anything. -/
namespace Go.Proofs.YtjkbpdobeljmjaaGreatDoor
open Go.RowKit Mem
namespace Rp
section
variable {P : Program} {md : Region.Mode} {Q : Exit → Act → World → Prop} {ops : Array Oper}
def treeB (md : Region.Mode) (ops : Array Oper) : Plan → Array Bool → Bool
  | .done, listed => (Region.ready md ops listed).isEmpty
  | .s _ _, _ => false
  | .f i p, listed => decide (Region.ready md ops listed = [i]) && treeB md ops p (listed.setIfInBounds i true)
  | .b i p j q, listed => decide (Region.ready md ops listed = [i, j]) && decide (p.size = q.size) && treeB md ops p (listed.setIfInBounds i true) && treeB md ops q (listed.setIfInBounds j true)
def wpFree (P : Program) (ops : Array Oper) (Q : Exit → Act → World → Prop) (o : Option Oper) (K : Act → World → Prop) (a : Act) (w : World) : Prop :=
  match o with
  | some o => wpList P ops (fun e a' w' => match e with | .normal => K a' w' | e => Q e a' w') [o] a w
  | none => False
def wpTree (P : Program) (l : List Oper) (Q : Exit → Act → World → Prop) : Plan → Act → World → Prop
  | .done, a, w => wpList P l.toArray Q [] a w
  | .s _ _, _, _ => False
  | .f i p, a, w => wpFree P l.toArray Q (nth l i) (wpTree P l Q p) a w
  | .b i p j q, a, w => wpFree P l.toArray Q (nth l i) (wpTree P l Q p) a w ∧ wpFree P l.toArray Q (nth l j) (wpTree P l Q q) a w
theorem wpFree_op {l : List Oper} {i : Nat} {K : Act → World → Prop} {a : Act} {w : World} (h : wpFree P l.toArray Q (nth l i) K a w) : wpOp P l.toArray Q i K a w := by
  unfold wpFree at h
  split at h
  · rename_i o ho
    rw [nth_eq] at ho
    have ho' : l.toArray[i]? = some o := by simpa using ho
    unfold Go.wpOp
    simp only [ho']
    unfold wpList at h
    split
    · rename_i hw
      simp only [hw, if_true] at h
      rcases h with h2 | ⟨h2, h4⟩
      · refine .inl ?_
        unfold Oper.wp at h2 ⊢
        generalize (execOp a.eval o).run P w = res at *
        cases res with
        | ok nx w' => cases nx <;> simp only [Oper.upon] at h2 ⊢ <;> exact h2
        | halt y w' => cases y <;> simp only [Oper.upon] at h2 ⊢ <;> exact h2
      · exact .inr ⟨h2, h4⟩
    · rename_i hw
      simp only [hw] at h
      exact h
  · exact absurd h id
theorem any_tree {l : List Oper} : ∀ (p : Plan) (listed : Array Bool) (a : Act) (w : World), treeB md l.toArray p listed = true → wpTree P l Q p a w → wpAny P md l.toArray Q p.size listed a w
  | .done, listed, a, w, hB, h => ⟨by simpa [treeB] using hB, h⟩
  | .s _ _, _, _, _, hB, _ => by cases hB
  | .f i p, listed, a, w, hB, h => by
    simp only [treeB, Bool.and_eq_true, decide_eq_true_eq] at hB
    refine ⟨fun h1 => (by rw [hB.1] at h1; cases h1), fun k hk => ?_⟩
    rw [hB.1] at hk
    have hik : k = i := by simpa using hk
    subst hik
    exact wpOp_mono (fun a' w' h' => any_tree p _ a' w' hB.2 h') (wpFree_op h)
  | .b i p j q, listed, a, w, hB, h => by
    simp only [treeB, Bool.and_eq_true, decide_eq_true_eq] at hB
    obtain ⟨⟨⟨h1, hs⟩, h2⟩, h3⟩ := hB
    refine ⟨fun h0 => (by rw [h1] at h0; cases h0), fun k hk => ?_⟩
    rw [h1] at hk
    have hik : k = i ∨ k = j := by simpa using hk
    rcases hik with rfl | rfl
    · exact wpOp_mono (fun a' w' h' => any_tree p _ a' w' h2 h') (wpFree_op h.1)
    · exact wpOp_mono (fun a' w' h' => (by show wpAny P md l.toArray Q p.size _ a' w'; rw [hs]; exact any_tree q _ a' w' h3 h')) (wpFree_op h.2)
def pureT (md : Region.Mode) (ops : Array Oper) (q : Plan) : List Nat → Array Bool → Bool
  | [], listed => treeB md ops q listed
  | i :: r, listed => (Region.ready md ops listed).contains i && Region.free md ops listed i && pureT md ops q r (listed.setIfInBounds i true)
def wpPureT (P : Program) (l : List Oper) (Q : Exit → Act → World → Prop) (q : Plan) : List Oper → Act → World → Prop
  | [], a, w => wpTree P l Q q a w
  | o :: r, a, w => (Region.wanted o (yielded l.toArray a.tmps) = true ∧ ∃ v, (∀ x, (execOp a.eval o).run P x = .ok (.value v) x) ∧ wpPureT P l Q q r (a.put o.dst v) w) ∨
      (Region.wanted o (yielded l.toArray a.tmps) = false ∧ wpPureT P l Q q r (a.put o.dst undef) w)
theorem any_pureT {l : List Oper} (hQ : ∀ c a w, ¬ Q (.panic c) a w) (hsel : Region.noSelect l.toArray = true) (q : Plan) : ∀ (p : List Nat) (listed : Array Bool) (a : Act) (w : World), pureT md l.toArray q p listed = true →
    wpPureT P l Q q (pickN l p) a w → wpAny P md l.toArray Q (p.length + q.size) listed a w
  | [], listed, a, w, hB, h => by
    rw [show ([] : List Nat).length + q.size = q.size by simp]
    exact any_tree q listed a w hB h
  | i :: r, listed, a, w, hB, h => by
    simp only [pureT, Bool.and_eq_true] at hB
    obtain ⟨⟨hr, hf⟩, hB'⟩ := hB
    have hi : i ∈ Region.ready md l.toArray listed := by simpa using hr
    obtain ⟨_, o, ho, _⟩ := mem_ready.1 hi
    have hn : nth l i = some o := by rw [nth_eq]; simpa using ho
    have hp : pickN l (i :: r) = o :: pickN l r := by simp only [pickN, hn]
    rw [hp] at h
    rw [show (i :: r).length + q.size = (r.length + q.size) + 1 by simp; omega]
    rcases h with ⟨hw, v, hv, hk⟩ | ⟨hw, hk⟩
    · exact wpAny_take ho hsel hf hr (fun c a w hq => absurd hq (hQ _ _ _)) (.inl ⟨hw, hv⟩) (any_pureT hQ hsel q r _ _ w hB' hk)
    · exact wpAny_take ho hsel hf hr (fun c a w hq => absurd hq (hQ _ _ _)) (.inr ⟨hw, rfl⟩) (any_pureT hQ hsel q r _ _ w hB' hk)
theorem tree {id : Nat} {Q : Exit → Act → World → Prop} {a : Act} {w : World} {l : List Oper} (p : List Nat) (q : Plan) (hm : P.follows .mixedOrders = true)
    (hB : (Region.noSelect l.toArray && decide (p.length + q.size = l.toArray.size) && pureT .any l.toArray q p (Array.replicate l.toArray.size false)) = true)
    (h : wpPureT P l (NoPanic Q) q (pickN l p) a w.drew) : (Code.region id l.toArray true).wp P Q a w := by
  simp only [Bool.and_eq_true, decide_eq_true_eq] at hB
  obtain ⟨⟨hsel, hpl⟩, hp⟩ := hB
  have H := any_pureT (P := P) (md := .any) (Q := NoPanic Q) NoPanic_no hsel q p _ a w.drew hp h
  rw [hpl] at H
  exact wp_region_noPanic (wp_region_any hm H)
theorem tK {l : List Oper} {q : Plan} {a : Act} {w : World} {o : Oper} {r : List Oper} (hw : Region.wanted o (yielded l.toArray a.tmps) = true)
    (h : ∀ K : Act → Prop, (∀ a, wpPureT P l Q q r a w → K a) → ∃ v, (∀ x, Gives x v ((execOp a.eval o).run P x)) ∧ K (a.put o.dst v)) : wpPureT P l Q q (o :: r) a w := by
  obtain ⟨v, h1, h2⟩ := h _ (fun _ h => h)
  exact .inl ⟨hw, v, fun x => (h1 x).eq, h2⟩
theorem tStart {l : List Oper} {q : Plan} {a : Act} {w : World} (h : wpTree P l Q q a w) : wpPureT P l Q q [] a w := h
theorem tF {l : List Oper} {i : Nat} {p : Plan} {a : Act} {w : World} {o : Oper} (ho : nth l i = some o)
    (h : ∀ K : Act → World → Prop, (∀ a w, wpTree P l Q p a w → K a w) → wpList P l.toArray (fun e a' w' => match e with | .normal => K a' w' | e => Q e a' w') [o] a w) : wpTree P l Q (.f i p) a w := by
  have := h _ (fun _ _ h => h)
  unfold wpTree wpFree
  rw [ho]
  exact this
theorem tB {l : List Oper} {i j : Nat} {p q : Plan} {a : Act} {w : World} (h1 : wpTree P l Q (.f i p) a w) (h2 : wpTree P l Q (.f j q) a w) : wpTree P l Q (.b i p j q) a w := ⟨h1, h2⟩
theorem tDone {l : List Oper} {a : Act} {w : World} (h : Q .normal a w) : wpTree P l Q .done a w := h
end
end Rp
end Go.Proofs.YtjkbpdobeljmjaaGreatDoor

/- Two arrays of 32 bytes held against each other; a guarded operation that runs. -/
namespace Go.Proofs.YtjkbpdobeljmjaaGreatDoor
open Go.RowKit Bits Mem Sha
namespace Ref
theorem size_u8 (w : World) : (sizeOf 5).run Tryz.prog w = .ok 1 w := by
  obtain ⟨i0, h1, h2⟩ : ∃ i0, Tryz.prog.info? 5 = some i0 ∧ i0.size = 1 := by
    have : (Tryz.prog.info? 5).map (·.size) = some 1 := by kernel_rfl
    obtain ⟨i0, h1, h2⟩ := Option.map_eq_some_iff.1 this
    exact ⟨i0, h1, h2⟩
  simp [sizeOf, typeInfo, h1, h2]
theorem guard32 : Tryz.prog.eqGuardType Tryz.prog.depth 22 = false := by kernel_rfl
@[go_sem] theorem run_guard32 (op : BinOp) (x y : Operand) (xs ys : Array Value) (w : World) : (eqGuard op 22 x y (.agg xs) (.agg ys)).run Tryz.prog w = .ok () w := run_eqGuard_agg (P := Tryz.prog) w op 22 x y xs ys guard32
@[go_sem] theorem run_equal32 (a b : List UInt8) (w : World) (ha : a.length = 32) (hb : b.length = 32) : (Op.equalIn 10000 22 (.agg (bysA a)) (.agg (bysA b))).run Tryz.prog w = .ok (a == b) w :=
  run_equalIn_bytes (P := Tryz.prog) w 9998 22 5 32 Tryz.underlying22 Tryz.underlying5 size_u8 a b ha hb
theorem unguard16 {P : Program} {ops : Array Oper} {rest : List Oper} {o : Oper} {a : Act} {w : World} {Q : Exit → Act → World → Prop} (hw : Region.wanted o (yielded ops a.tmps) = true)
    (h : wpList P ops Q ({ o with guard := none } :: rest) a w) : wpList P ops Q (o :: rest) a w := by
  cases o
  unfold wpList at h ⊢
  rw [if_pos hw]
  split at h
  · exact h
  · rename_i h'; exact absurd rfl h'
theorem setRow_other (w : World) {g g' : Nat} (c : Array Value) (h : g ≠ g') : (w.setRow g c).heap[g']? = w.heap[g']? := by
  unfold World.setRow
  exact (Array.getElem?_modify ..).trans (if_neg h)
theorem setRow_size (w : World) (g : Nat) (c : Array Value) : (w.setRow g c).heap.size = w.heap.size := by
  unfold World.setRow
  simp
theorem two_cells {w : World} {g : Nat} {a b : Value} {t : TypeId} (hg : w.heap[g]? = some (.cells #[a, b] t (0, 0))) :
    w.cell? ⟨g, 0, none⟩ = some a ∧ w.cell? ⟨g, 1, none⟩ = some b ∧ w.frozen? ⟨g, 0, none⟩ = false ∧ w.frozen? ⟨g, 1, none⟩ = false :=
  ⟨(cell_of_row _ _ _ _ _ _ hg).trans rfl, (cell_of_row _ _ _ _ _ _ hg).trans rfl, by simp [World.frozen?, hg], by simp [World.frozen?, hg]⟩
theorem two_stored {w : World} {g : Nat} {a b a' b' : Value} {t : TypeId} (hg : w.heap[g]? = some (.cells #[a, b] t (0, 0))) : (w.setCell ⟨g, 0, none⟩ a').setCell ⟨g, 1, none⟩ b' = w.setRow g #[a', b'] := by
  rw [setCell_eq_setRow w g 0 _ _ _ _ hg, setCell_eq_setRow _ g 1 _ _ _ _ (setRow_heap w g _ _ _ _ hg), Rg.setRow_setRow]
  rfl
end Ref
end Go.Proofs.YtjkbpdobeljmjaaGreatDoor

/- The walk of slices.Reverse on rows of sums, of any length. -/
namespace Go.Proofs.YtjkbpdobeljmjaaGreatDoor
open Go.RowKit Bits Mem Sha
namespace Ref
def revk (k : Nat) (O : List (List UInt8)) : List (List UInt8) := (List.range O.length).map fun i => if i < k ∨ O.length - k ≤ i then O.getD (O.length - 1 - i) [] else O.getD i []
theorem revk_length (k : Nat) (O : List (List UInt8)) : (revk k O).length = O.length := by simp [revk]
theorem revk_get (k : Nat) (O : List (List UInt8)) (i : Nat) (h : i < O.length) : (revk k O)[i]? = some (if i < k ∨ O.length - k ≤ i then O.getD (O.length - 1 - i) [] else O.getD i []) := by
  simp [revk, h]
theorem revk_zero (O : List (List UInt8)) : revk 0 O = O := by
  refine List.ext_getElem? fun i => ?_
  by_cases h : i < O.length
  · rw [revk_get 0 O i h, if_neg (by omega)]; simp [List.getD, h]
  · rw [List.getElem?_eq_none (by rw [revk_length]; omega), List.getElem?_eq_none (by omega)]
theorem revk_end (k : Nat) (O : List (List UInt8)) (h : O.length ≤ 2 * k + 1) : revk k O = O.reverse := by
  refine List.ext_getElem? fun i => ?_
  by_cases hi : i < O.length
  · rw [revk_get k O i hi, List.getElem?_reverse hi]
    by_cases hc : i < k ∨ O.length - k ≤ i
    · rw [if_pos hc]; simp [List.getD, show O.length - 1 - i < O.length by omega]
    · rw [if_neg hc, show O.length - 1 - i = i by omega]; simp [List.getD, hi]
  · rw [List.getElem?_eq_none (by rw [revk_length]; omega), List.getElem?_eq_none (by simp; omega)]
theorem revk_step (k m : Nat) (O : List (List UInt8)) (hm : m + k + 1 = O.length) (hk : k < m) : ((revk k O).set k (O.getD m [])).set m (O.getD k []) = revk (k + 1) O := by
  refine List.ext_getElem? fun i => ?_
  by_cases hi : i < O.length
  · rw [revk_get (k + 1) O i hi]
    by_cases h1 : i = m
    · subst h1
      rw [List.getElem?_set_self (by rw [List.length_set, revk_length]; omega), if_pos (by omega), show O.length - 1 - i = k by omega]
    · rw [List.getElem?_set_ne (fun e => h1 e.symm)]
      by_cases h2 : i = k
      · subst h2
        rw [List.getElem?_set_self (by rw [revk_length]; omega), if_pos (by omega), show O.length - 1 - i = m by omega]
      · rw [List.getElem?_set_ne (fun e => h2 e.symm), revk_get k O i hi]
        by_cases hc : i < k ∨ O.length - k ≤ i
        · rw [if_pos hc, if_pos (by omega)]
        · rw [if_neg hc, if_neg (by omega)]
  · rw [List.getElem?_eq_none (by rw [List.length_set, List.length_set, revk_length]; omega), List.getElem?_eq_none (by rw [revk_length]; omega)]
theorem revk_at (k : Nat) (O : List (List UInt8)) (i : Nat) (h : i < O.length) (h1 : ¬ (i < k ∨ O.length - k ≤ i)) : (revk k O).getD i [] = O.getD i [] := by
  rw [List.getD_eq_getElem?_getD, revk_get k O i h, if_neg h1]; rfl
theorem l_store {P : Program} {ops : Array Oper} {rest : List Oper} {o : Oper} {a : Act} {w w' : World} {Q : Exit → Act → World → Prop} (hgd : o.guard = none) (ty : TypeId) (x v : Operand) (ho : o.op = .store ty x v)
    (p : Addr) (hx : a.eval x = .pointer (some p)) (u : Value) (hv : a.eval v = u) (hrun : (storeVar ty p u).run P w = .ok () w')
    (h : wpList P ops Q rest (a.put o.dst undef) w') : wpList P ops Q (o :: rest) a w :=
  wpList_plain hgd fun _ hK => by
    unfold Oper.wp execOp
    simp only [ho, hx, hv, Instr.storeAt, Instr.sureAddr, Sem.run_bind, Sem.run_pure, Result.andThen_ok, hrun]
    exact hK _ _ h
theorem RdL.load0 {w : World} {L : List (List UInt8)} {g c k : Nat} (h : RdL w (.slice (some ⟨g, 0, none⟩) L.length c) L) (hk : k < L.length) : (Instr.loadAt 22 (.pointer (some ⟨g, k * 32, none⟩))).run Tryz.prog w = .ok (.agg (bysA (L.getD k []))) w := by
  obtain ⟨b, off, he, _, _, _, hr⟩ := h.load hk
  cases he
  have := hr w (Below.refl _ _)
  rwa [Nat.zero_add] at this
set_option maxRecDepth 100000 in
set_option maxHeartbeats 4000000 in
theorem rev_any (n : Nat) : RevOk n := by
  by_cases hn1 : n ≤ 1
  · exact rev_short n hn1
  · intro q c O x B hn ho
    obtain ⟨g, hq⟩ : ∃ g, q = some ⟨g, 0, none⟩ := by
      rcases ho.2.2 with ⟨_, h0⟩ | ⟨g, cap, cur, fz, hv, _⟩
      · omega
      · injection hv with h1; exact ⟨g, h1⟩
    subst hq
    have ho' := ho
    rw [← hn] at ho'
    have hcap := Rd_cap (Rd.of_ow ho'.2)
    have hnb : n ≤ 9223372036854775807 := by rw [hn] at hcap; have := hcap.2; unfold maxLen at this; omega
    clear ho'
    have HO := Lib.hid ho
    have HN := Lib.hid hn
    have hn0 : 0 < n := by omega
    obtain ⟨m0, rfl⟩ : ∃ m0, n = m0 + 1 := ⟨n - 1, by omega⟩
    clear ho hcap hn
    go_enter Tryz.func229, Tryz.ntmps229
    go_wp2_with fail
    go_loopw [2, 3] (fun a b wr => ∃ k m : Nat, a = .int .i64 k ∧ b = .int .i64 m ∧ m + k = m0 ∧ k ≤ m + 1 ∧ Hid (OwL wr B (.slice (some ⟨g, 0, none⟩) (m0 + 1) c) (revk k O)) ∧ Hid (x.grownBy wr (some g))) (fun _ b _ => (intOf b).toNat)
    case atStart => exact ⟨0, m0, rfl, rfl, rfl, by omega, Lib.hid (by rw [revk_zero]; exact HO.out), Lib.hid ⟨rfl, rfl, rfl, Nat.le_refl _, fun _ _ _ => rfl⟩⟩
    case round =>
      obtain ⟨k, m, rfl, rfl, hmk, hkm, HW, HG⟩ := hrel
      by_cases hlt : k < m
      · have hltI : (k : Int) < (m : Int) := by omega
        have hOL := HN.out
        have hrl := revk_length k O
        have hk1 : k < m0 + 1 := by omega
        have hm1 : m < m0 + 1 := by omega
        have hk1I : (k : Int) < (m0 : Int) + 1 := by omega
        have hm1I : (m : Int) < (m0 : Int) + 1 := by omega
        obtain ⟨X, hX⟩ : ∃ X, X = O.getD k [] := ⟨_, rfl⟩
        obtain ⟨Y, hY⟩ : ∃ Y, Y = O.getD m [] := ⟨_, rfl⟩
        have hw : OwL wr.drew B (.slice (some ⟨g, 0, none⟩) (revk k O).length c) (revk k O) := by rw [hrl, hOL]; exact HW.out
        have hLX := hw.rd.load0 (k := k) (by omega)
        have hLY := hw.rd.load0 (k := m) (by omega)
        rw [revk_at k O k (by omega) (by omega), ← hX] at hLX
        rw [revk_at k O m (by omega) (by omega), ← hY] at hLY
        have hX32 : X.length = 32 := by rw [hX, ← revk_at k O k (by omega) (by omega)]; exact hw.1.getD (by omega)
        have hY32 : Y.length = 32 := by rw [hY, ← revk_at k O m (by omega) (by omega)]; exact hw.1.getD (by omega)
        have hs1 := hw.store (k := k) (y := Y) (by omega) hY32
        have hw2 : OwL (wr.drew.setCells g (k * 32) (bys Y)) B (.slice (some ⟨g, 0, none⟩) ((revk k O).set k Y).length c) ((revk k O).set k Y) := by rw [List.length_set]; exact hs1.2.1
        have hs2 := hw2.store (k := m) (y := X) (by rw [List.length_set]; omega) hX32
        have HLX := Lib.hid hLX
        have HLY := Lib.hid hLY
        have HST1 := Lib.hid hs1
        have HST2 := Lib.hid hs2
        have HFIN : Hid (((revk k O).set k Y).set m X = revk (k + 1) O) := Lib.hid (by rw [hX, hY]; exact revk_step k m O (by omega) hlt)
        have HGG : Hid (x.grownBy ((wr.drew.setCells g (k * 32) (bys Y)).setCells g (m * 32) (bys X)) (some g)) := Lib.hid (by
          have h0 : x.grownBy wr.drew (some g) := ⟨HG.out.os, HG.out.tape, HG.out.output, HG.out.size, HG.out.block⟩
          exact grown_trans (grown_trans h0 hs1.2.2) hs2.2.2)
        clear hX hY hw hLX hLY hX32 hY32 hs1 hw2 hs2 hrl hOL
        go_wp2_with fail
        refine Rp.tree [0, 1, 2, 3, 4, 5, 6, 8, 9, 10] (.b 7 (.f 11 (.f 12 (.f 13 (.f 14 (.f 15 .done))))) 11 (.f 7 (.f 12 (.f 13 (.f 14 (.f 15 .done)))))) (by kernel_rfl) (by kernel_rfl) ?_
        simp only [Rp.pickN, Rp.nth]
        repeat (refine Rp.tK rfl ?_; intro K hK; apply Exists.intro; refine ⟨?_, ?_⟩; (focus (intro x; go_simp; (first | ((try go_bits); (try go_simp); (try rfl))))); go_simp; refine hK _ ?_; clear hK K)
        refine Rp.tStart ?_
        refine Rp.tB ?_ ?_
        ·
          refine Rp.tF rfl fun K hK => ?_
          go_wp2_with (refine l_load rfl _ _ rfl _ HLY.out ?_)
          refine Rp.tF rfl fun K hK => ?_
          go_wp2_with (refine l_load rfl _ _ rfl _ HLX.out ?_)
          refine Rp.tF rfl fun K hK => ?_
          go_wp2_with fail
          refine Rp.tF rfl fun K hK => ?_
          go_wp2_with (refine l_store rfl _ _ _ rfl _ rfl _ rfl HST1.out.1 ?_)
          refine Rp.tF rfl fun K hK => ?_
          go_wp2_with fail
          refine Rp.tF rfl fun K hK => ?_
          go_wp2_with (refine l_store rfl _ _ _ rfl _ rfl _ rfl HST2.out.1 ?_)
          refine Rp.tDone ?_
          refine NoPanic.normal ?_
          go_wp2_with fail
          refine ⟨⟨k + 1, m - 1, by go_num, by rw [show ((m - 1 : Nat) : Int) = (m : Int) - 1 by omega], by omega, by omega, Lib.hid (by have := HST2.out.2.1; rw [HFIN.out, List.length_set, revk_length, HN.out] at this; exact this), HGG⟩, by simp [intOf]; omega⟩
        ·
          refine Rp.tF rfl fun K hK => ?_
          go_wp2_with (refine l_load rfl _ _ rfl _ HLX.out ?_)
          refine Rp.tF rfl fun K hK => ?_
          go_wp2_with (refine l_load rfl _ _ rfl _ HLY.out ?_)
          refine Rp.tF rfl fun K hK => ?_
          go_wp2_with fail
          refine Rp.tF rfl fun K hK => ?_
          go_wp2_with (refine l_store rfl _ _ _ rfl _ rfl _ rfl HST1.out.1 ?_)
          refine Rp.tF rfl fun K hK => ?_
          go_wp2_with fail
          refine Rp.tF rfl fun K hK => ?_
          go_wp2_with (refine l_store rfl _ _ _ rfl _ rfl _ rfl HST2.out.1 ?_)
          refine Rp.tDone ?_
          refine NoPanic.normal ?_
          go_wp2_with fail
          refine ⟨⟨k + 1, m - 1, by go_num, by rw [show ((m - 1 : Nat) : Int) = (m : Int) - 1 by omega], by omega, by omega, Lib.hid (by have := HST2.out.2.1; rw [HFIN.out, List.length_set, revk_length, HN.out] at this; exact this), HGG⟩, by simp [intOf]; omega⟩
      · have hge : ¬ (k : Int) < (m : Int) := by omega
        have HE : Hid (revk k O = O.reverse) := Lib.hid (revk_end k O (by rw [HN.out]; omega))
        go_wp2_with fail
        refine bodyPost_end (results_none rfl _ _ _) rfl ?_
        exact ⟨rfl, by rw [← HE.out]; exact HW.out, HG.out⟩
end Ref
end Go.Proofs.YtjkbpdobeljmjaaGreatDoor

/- The walk of the log's Consistency, and the errors of Inclusion and Consistency. -/
namespace Go.Proofs.YtjkbpdobeljmjaaGreatDoor
open Go.RowKit Bits Mem Sha
namespace Ref
abbrev subS (l : List (List UInt8)) (m : Nat) (f : Bool) : List (List UInt8) := Rfc.sub nodeS (sha []) l m f
theorem subS_left (l : List (List UInt8)) (m : Nat) (f : Bool) (h : m < l.length) (h1 : 1 ≤ m) (hi : m ≤ Rfc.hf l.length) : subS l m f = subS (l.take (Rfc.hf l.length)) m f ++ [treeS (l.drop (Rfc.hf l.length))] := by
  unfold subS
  rw [Rfc.sub, dif_pos ⟨h, h1⟩, if_pos hi]
  rfl
theorem subS_right (l : List (List UInt8)) (m : Nat) (f : Bool) (h : m < l.length) (h1 : 1 ≤ m) (hi : ¬ m ≤ Rfc.hf l.length) : subS l m f = subS (l.drop (Rfc.hf l.length)) (m - Rfc.hf l.length) false ++ [treeS (l.take (Rfc.hf l.length))] := by
  unfold subS
  rw [Rfc.sub, dif_pos ⟨h, h1⟩, if_neg hi]
  rfl
theorem subS_end (l : List (List UInt8)) (m : Nat) (f : Bool) (h : ¬ (m < l.length ∧ 1 ≤ m)) : subS l m f = bif f then [] else [treeS l] := by
  unfold subS
  rw [Rfc.sub, dif_neg h]
  rfl
theorem subS_len (n : Nat) : ∀ (l : List (List UInt8)) (m : Nat) (f : Bool), l.length = n → (subS l m f).length ≤ n + 1 := by
  induction n using Nat.strongRecOn with
  | _ n ih =>
    intro l m f hl
    by_cases h : m < l.length ∧ 1 ≤ m
    · have h1 := Rfc.hf_lt l.length (by omega)
      have h2 := Rfc.hf_pos l.length
      by_cases hi : m ≤ Rfc.hf l.length
      · rw [subS_left l m f h.1 h.2 hi, List.length_append]
        have := ih (Rfc.hf l.length) (by omega) (l.take (Rfc.hf l.length)) m f (by rw [List.length_take]; omega)
        simp; omega
      · rw [subS_right l m f h.1 h.2 hi, List.length_append]
        have := ih (l.length - Rfc.hf l.length) (by omega) (l.drop (Rfc.hf l.length)) (m - Rfc.hf l.length) false (by rw [List.length_drop])
        simp; omega
    · rw [subS_end l m f h]
      cases f <;> simp
end Ref
end Go.Proofs.YtjkbpdobeljmjaaGreatDoor


/- Plain rules: how the walk's integer terms at 32 bits are written over BitVec 32. No condition. -/
import Derived.WalkKit
import Derived.StillTail
import Derived.Deep.Quiet
import Derived.Deep.WholeRow
import Derived.Deep.MidRow
import Derived.Laws.CopyRow
import Derived.Deep.QuietTactic
import Derived.Deep.AppendSrc
import Derived.Laws.OwnMore
import Derived.Laws.AppendOwnNone
import Derived.Below
namespace Go.Proofs.YtmonkggoilhngaaGreatDoor
namespace Bits

def n32 (a : BitVec 32) : Int := (a.toNat : Int)
theorem ofInt32 (a : BitVec 32) : BitVec.ofInt 32 (n32 a) = a := by
  unfold n32; rw [BitVec.ofInt_natCast]; simp
theorem wrap32 (a : BitVec 32) : IntKind.u32.wrap (a.toNat : Int) = n32 a := by
  have := a.isLt
  unfold n32
  rw [IntKind.wrap_u32']; omega
@[go_sem] theorem u32_same (a : BitVec 32) : IntKind.u32.wrap (n32 a) = n32 a := wrap32 a
@[go_sem] theorem u32_add (a b : BitVec 32) : IntKind.u32.wrap (n32 a + n32 b) = n32 (a + b) := by
  unfold n32; rw [IntKind.wrap_u32', BitVec.toNat_add]; omega
@[go_sem] theorem u32_add' (a b : BitVec 32) : (n32 a + n32 b) % (4294967296 : Int) = n32 (a + b) := by
  unfold n32; rw [BitVec.toNat_add]; omega
@[go_sem] theorem u32_xor (a b : BitVec 32) : bits .xor .u32 (n32 a) (n32 b) = n32 (a ^^^ b) := by
  show IntKind.u32.wrap ((BitVec.ofInt 32 (n32 a) ^^^ BitVec.ofInt 32 (n32 b)).toNat : Int) = _
  rw [ofInt32, ofInt32, wrap32]
@[go_sem] theorem u32_and (a b : BitVec 32) : bits .and .u32 (n32 a) (n32 b) = n32 (a &&& b) := by
  show IntKind.u32.wrap ((BitVec.ofInt 32 (n32 a) &&& BitVec.ofInt 32 (n32 b)).toNat : Int) = _
  rw [ofInt32, ofInt32, wrap32]
@[go_sem] theorem u32_or (a b : BitVec 32) : bits .or .u32 (n32 a) (n32 b) = n32 (a ||| b) := by
  show IntKind.u32.wrap ((BitVec.ofInt 32 (n32 a) ||| BitVec.ofInt 32 (n32 b)).toNat : Int) = _
  rw [ofInt32, ofInt32, wrap32]
@[go_sem] theorem u32_not (a : BitVec 32) : bits .xor .u32 (4294967295 : Int) (n32 a) = n32 (~~~a) := by
  show IntKind.u32.wrap ((BitVec.ofInt 32 4294967295 ^^^ BitVec.ofInt 32 (n32 a)).toNat : Int) = _
  rw [ofInt32, wrap32]
  have h : BitVec.ofInt 32 4294967295 = BitVec.allOnes 32 := by decide
  rw [h, BitVec.allOnes_xor]
@[go_sem] theorem u32_not' (a : BitVec 32) : bits .xor .u32 (if IntKind.u32.signed = true then -1 else IntKind.u32.max) (n32 a) = n32 (~~~a) := by
  rw [if_neg (by decide), show IntKind.u32.max = (4294967295 : Int) from by decide]; exact u32_not a
@[go_sem] theorem u32_shr (a : BitVec 32) (n : Nat) : n32 a / (2 : Int) ^ n = n32 (a >>> n) := by
  unfold n32; rw [BitVec.toNat_ushiftRight, Nat.shiftRight_eq_div_pow]; simp
@[go_sem] theorem u32_shl (a : BitVec 32) (n : Nat) : n32 a * (2 : Int) ^ n % (4294967296 : Int) = n32 (a <<< n) := by
  unfold n32; rw [BitVec.toNat_shiftLeft, Nat.shiftLeft_eq]; simp
@[go_sem] theorem u32_shl8 (a : BitVec 32) : n32 a * (256 : Int) % (4294967296 : Int) = n32 (a <<< 8) := by
  have h := u32_shl a 8; rw [show ((2 : Int) ^ 8) = 256 from rfl] at h; exact h
@[go_sem] theorem u32_shl8' (a : BitVec 32) : IntKind.u32.wrap (n32 a * (256 : Int)) = n32 (a <<< 8) := by
  rw [IntKind.wrap_u32']; exact u32_shl8 a
@[go_sem] theorem u32_shlw (a : BitVec 32) (n : Nat) : IntKind.u32.wrap (n32 a * (2 : Int) ^ n) = n32 (a <<< n) := by
  rw [IntKind.wrap_u32', u32_shl]
theorem rotRight (x : BitVec 32) (m : Nat) (h : m < 32) : (x <<< (32 - m)) ||| (x >>> m) = x.rotateRight m := by
  rw [BitVec.rotateRight, Nat.mod_eq_of_lt h, BitVec.rotateRightAux, BitVec.or_comm]
end Bits
end Go.Proofs.YtmonkggoilhngaaGreatDoor
/- A region that draws its order: its first n operations are quiet in a class of worlds (one value in every world of the class, and the world behind is of the class), the rest stand in one order. It is walked once, in the text's order. No condition beyond the Bool on the region's edges, which the kernel reckons. -/
namespace Go.Proofs.YtmonkggoilhngaaGreatDoor
namespace Rg
/-! Whole rows: a load and a store of all cells of a block. -/
theorem store_row {P : Program} {ops : Array Oper} {rest : List Oper} {o : Oper} {a : Act} {w : World} {Q : Exit → Act → World → Prop} (hgd : o.guard = none) (ty : TypeId) (x v : Operand) (ho : o.op = .store ty x v)
    (g : Nat) (hx : a.eval x = .pointer (some ⟨g, 0, none⟩)) (t : TypeId) (old cs : Array Value) (hv : a.eval v = .agg cs) (hg : w.heap[g]? = some (.cells old t (0, 0)))
    (hi : (P.info? ty).map (·.size) = some cs.size) (hs : old.size = cs.size) (h1 : cs.all (·.oneCell') = true)
    (h : wpList P ops Q rest (a.put o.dst undef) (w.setRow g cs)) : wpList P ops Q (o :: rest) a w :=
  wpList_plain hgd fun _ hK => by
    unfold Oper.wp execOp
    simp only [ho, hx, hv, Instr.storeAt, Instr.sureAddr, Sem.run_bind, Sem.run_pure, Result.andThen_ok, run_storeVar_row w g t ty old cs hg hi hs h1]
    exact hK _ _ h
theorem setRow_alloc_at (w : World) (c c' : Array Value) (t : TypeId) (g : Nat) (hg : g = w.heap.size) : (w.alloc (.cells c t)).setRow g c' = w.alloc (.cells c' t) := by
  subst hg; exact World.setRow_alloc_new w c c' t
theorem store_part {P : Program} {ops : Array Oper} {rest : List Oper} {o : Oper} {a : Act} {w : World} {Q : Exit → Act → World → Prop} (hgd : o.guard = none) (ty : TypeId) (x v : Operand) (ho : o.op = .store ty x v)
    (g off : Nat) (hx : a.eval x = .pointer (some ⟨g, off, none⟩)) (t : TypeId) (cur cs : Array Value) (hv : a.eval v = .agg cs) (hg : w.heap[g]? = some (.cells cur t (0, 0)))
    (hi : (P.info? ty).map (·.size) = some cs.size) (hs : off + cs.size ≤ cur.size) (h1 : cs.all (·.oneCell') = true)
    (h : wpList P ops Q rest (a.put o.dst undef) (w.setRow g (cur.toList.take off ++ cs.toList ++ cur.toList.drop (off + cs.size)).toArray)) : wpList P ops Q (o :: rest) a w :=
  wpList_plain hgd fun _ hK => by
    have hst := run_storeCells_at P g off t cs.toList 0 cur w hg (by simpa using hs) (fun u hu => (Array.all_eq_true_iff_forall_mem.1 h1) u (by simpa using hu))
    have hrun : (storeVar ty ⟨g, off, none⟩ (.agg cs)).run P w = .ok () (w.setRow g (cur.toList.take off ++ cs.toList ++ cur.toList.drop (off + cs.size)).toArray) := by
      cases hq : P.info? ty with
      | none => simp [hq] at hi
      | some i =>
        have hs' : cs.size = i.size := by simp [hq] at hi; omega
        simp only [Nat.add_zero, Array.length_toList] at hst
        simp [storeVar, sizeOf, typeInfo, hq, Value.cells, hs', hst]
    unfold Oper.wp execOp
    simp only [ho, hx, hv, Instr.storeAt, Instr.sureAddr, Sem.run_bind, Sem.run_pure, Result.andThen_ok, hrun]
    exact hK _ _ h
theorem setRow_drewN (w : World) (n g : Nat) (c : Array Value) : (w.drewN n).setRow g c = (w.setRow g c).drewN n := rfl
theorem heap_alloc_at (w : World) (o : Obj) (g : Nat) (hg : g = w.heap.size) : (w.alloc o).heap[g]? = some o := by
  subst hg; exact heap_alloc_last w o
theorem store_row_new {P : Program} {ops : Array Oper} {rest : List Oper} {o : Oper} {a : Act} {w : World} {Q : Exit → Act → World → Prop} (hgd : o.guard = none) (ty : TypeId) (x v : Operand) (ho : o.op = .store ty x v)
    (g : Nat) (hg : g = w.heap.size) (hx : a.eval x = .pointer (some ⟨g, 0, none⟩)) (t : TypeId) (old cs : Array Value) (hv : a.eval v = .agg cs)
    (hi : (P.info? ty).map (·.size) = some cs.size) (hs : old.size = cs.size) (h1 : cs.all (·.oneCell') = true)
    (h : wpList P ops Q rest (a.put o.dst undef) (w.alloc (.cells cs t))) : wpList P ops Q (o :: rest) a (w.alloc (.cells old t)) :=
  store_row hgd ty x v ho g hx t old cs hv (heap_alloc_at _ _ _ hg) hi hs h1 (by rw [setRow_alloc_at _ _ _ _ _ hg]; exact h)
theorem heap_alloc_past (w : World) (o : Obj) (g : Nat) (hg : g < w.heap.size) : (w.alloc o).heap[g]? = w.heap[g]? := by
  show (w.heap.push o)[g]? = w.heap[g]?
  rw [Array.getElem?_push, if_neg (Nat.ne_of_lt hg)]
theorem setRow_self {w : World} {g : Nat} {c : Array Value} {t : TypeId} {fr : Nat × Nat} (hg : w.heap[g]? = some (.cells c t fr)) : w.setRow g c = w := by
  unfold World.setRow
  congr 1
  apply Array.ext_getElem?
  intro k
  rw [Array.getElem?_modify]
  by_cases hk : g = k
  · subst hk; simp [hg]
  · simp [hk]
theorem setRow_setRow (w : World) (g : Nat) (c c' : Array Value) : (w.setRow g c).setRow g c' = w.setRow g c' := by
  unfold World.setRow
  congr 1
  apply Array.ext_getElem?
  intro k
  simp only [Array.getElem?_modify]
  by_cases hk : g = k
  · subst hk
    cases hh : w.heap[g]? with
    | none => simp
    | some o => cases o <;> simp
  · simp [hk]
theorem setCell_setRow {w : World} {g : Nat} {c old : Array Value} {t : TypeId} {fr : Nat × Nat} (hg : w.heap[g]? = some (.cells old t fr)) (k : Nat) (v : Value) :
    (w.setRow g c).setCell ⟨g, k, none⟩ v = w.setRow g (c.setIfInBounds k v) := by
  rw [setCell_eq_setRow (w.setRow g c) g k c t fr v (setRow_heap w g old c t fr hg), setRow_setRow]
theorem below_setRow {B : Nat} {a w : World} (h : RowKit.Below B a w) {g : Nat} (hg : B ≤ g) (c : Array Value) : RowKit.Below B a (w.setRow g c) :=
  h.trans ⟨rfl, rfl, rfl, by simp, fun k hk => setRow_other w g k c (by omega)⟩
theorem below_drewN {B : Nat} {a w : World} (h : RowKit.Below B a w) (n : Nat) : RowKit.Below B a (w.drewN n) := ⟨h.os, h.tape, h.output, h.size, h.block⟩
theorem below_row {B : Nat} {a w : World} (h : RowKit.Below B a w) {g : Nat} (hg : g < B) {o : Obj} (ho : a.heap[g]? = some o) : w.heap[g]? = some o := (h.block g hg).trans ho
section
variable {P : Program} {ops : Array Oper} {md : Region.Mode} {C : World → Prop}
def anyL (P : Program) (md : Region.Mode) (ops : Array Oper) (C : World → Prop) (n : Nat) (L : Array Bool → Act → Prop) : Nat → Array Bool → Act → Prop
  | 0, listed, a => L listed a
  | f + 1, listed, a =>
    Region.ready md ops listed ≠ [] ∧ ∀ i ∈ Region.ready md ops listed, i < n ∧ qOp P ops C i (anyL P md ops C n L f (listed.setIfInBounds i true)) a
theorem any_of_head {n g : Nat} {L : Array Bool → Act → Prop} {Q' : Exit → Act → World → Prop} (hL : ∀ listed a w, C w → L listed a → wpAny P md ops Q' g listed a w) :
    ∀ (f : Nat) (listed : Array Bool) (a : Act) (w : World), C w → anyL P md ops C n L f listed a → wpAny P md ops Q' (f + g) listed a w
  | 0, listed, a, w, hw, h => by rw [Nat.zero_add]; exact hL _ _ _ hw h
  | f + 1, listed, a, w, hw, h => by
    rw [show f + 1 + g = (f + g) + 1 by omega]
    exact ⟨fun h0 => absurd h0 h.1, fun i hi => wpOp_of_qOp hw (fun a' w' hw' h' => any_of_head hL f _ a' w' hw' h') (h.2 i hi).2⟩
theorem anyL_first {n i : Nat} {oi : Oper} {v : Value} {L : Array Bool → Act → Prop} (hi : ops[i]? = some oi) (hsel : ∀ (j : Nat) (o : Oper) cs b, ops[j]? = some o → o.op ≠ .select cs b)
    (hs : Region.sinkB md ops n = true) (hc : Region.chainB md ops n = true) (hn : n < ops.size) (hin : i < n)
    (hdone : ∀ listed a, L listed a → ∀ j ∈ Region.ready md ops listed, n ≤ j) :
    ∀ (f : Nat) (listed : Array Bool) (a : Act), HeadInv md ops n listed →
      (∀ j oj, ops[j]? = some oj → j ≠ i → listed.getD j true = false → (∀ e ∈ oj.after, Region.binds md e = true → e.on ≠ i) → oi.apart ops oj = true) →
      i ∈ Region.ready md ops listed → YieldsIn P ops C oi v a →
      anyL P md ops C n L f (listed.setIfInBounds i true) (a.put oi.dst v) → anyL P md ops C n L (f + 1) listed a := by
  intro f
  induction f with
  | zero =>
    intro listed a inv _ hr hy H
    have hun := (mem_ready.1 hr).1
    refine ⟨fun h => (by rw [h] at hr; cases hr), fun j hj => ?_⟩
    have hjn : j < n := by
      rcases Nat.lt_or_ge j n with h | h
      · exact h
      · exact absurd hj (tail_waits hs hc hn inv _ i rfl hin hun j h)
    refine ⟨hjn, ?_⟩
    by_cases hji : j = i
    · subst hji; exact hy.qOp hi H
    · have := hdone _ _ H j (ready_mono hj hji)
      omega
  | succ f ih =>
    intro listed a inv hfree hr hy H
    have hun := (mem_ready.1 hr).1
    refine ⟨fun h => (by rw [h] at hr; cases hr), fun j hj => ?_⟩
    have hjn : j < n := by
      rcases Nat.lt_or_ge j n with h | h
      · exact h
      · exact absurd hj (tail_waits hs hc hn inv _ i rfl hin hun j h)
    refine ⟨hjn, ?_⟩
    by_cases hji : j = i
    · subst hji; exact hy.qOp hi H
    · have h1 := (H.2 j (ready_mono hj hji)).2
      obtain ⟨hjun, oj, hoj, hall⟩ := mem_ready.1 hj
      have hnot : ∀ e ∈ oj.after, Region.binds md e = true → e.on ≠ i := fun e he hb heq => by
        have h1 := hall e he hb
        rw [heq, getD_both hun] at h1
        cases h1
      have h2 := qOp_put hoj (hfree j oj hoj hji hjun hnot) (fun cs b => hsel i oi cs b hi) (fun cs b => hsel j oj cs b hoj) hy h1
      have hfree' : ∀ k ok, ops[k]? = some ok → k ≠ i → (listed.setIfInBounds j true).getD k true = false →
          (∀ e ∈ ok.after, Region.binds md e = true → e.on ≠ i) → oi.apart ops ok = true := fun k ok hk hki hun hno => by
        refine hfree k ok hk hki ?_ hno
        by_cases hjk : j = k
        · subst hjk; exact hjun
        · rw [getD_set_ne true hjk] at hun; exact hun
      refine qOp_mono (fun a' h3 => ih (listed.setIfInBounds j true) a' (inv.set hj hjn) hfree' (ready_mono hr (Ne.symm hji)) h3.1 ?_) h2
      rw [Array.setIfInBounds_comm _ _ hji]
      exact h3.2
theorem anyL_lex {n g : Nat} {Lq : Act → Prop} (hsel : Region.noSelect ops = true) (hs : Region.sinkB md ops n = true) (hc : Region.chainB md ops n = true) (hn : n < ops.size) :
    ∀ (l : List Oper) (k : Nat) (listed : Array Bool) (a : Act), (∀ j, j < l.length → l[j]? = ops[k + j]?) → k + l.length = n → HeadInv md ops n listed →
    Region.lexHead md ops g l.length k listed = true → wpQuiet P ops C Lq l a →
    anyL P md ops C n (fun listed' a' => Region.seqB md ops g n listed' = true ∧ Lq a') l.length listed a
  | [], k, listed, a, _, hk, _, hB, h => by
    have : k = n := by simpa using hk
    subst this
    exact ⟨by simpa [Region.lexHead] using hB, h⟩
  | o :: l, k, listed, a, hl, hk, inv, hB, h => by
    have h0 : ops[k]? = some o := by simpa using (hl 0 (by simp)).symm
    simp only [List.length_cons, Region.lexHead, Bool.and_eq_true] at hB
    obtain ⟨⟨hr, hf⟩, hB'⟩ := hB
    have hkn : k < n := by simp only [List.length_cons] at hk; omega
    have hr' : k ∈ Region.ready md ops listed := by simpa using hr
    have hst : qOp P ops C k (wpQuiet P ops C Lq l) a := by unfold qOp; simp only [h0]; exact h
    obtain ⟨v, hy, hK⟩ := yieldsIn_of_qOp h0 hst
    exact anyL_first h0 (Region.noSelect_spec hsel) hs hc hn hkn (fun listed' a' hL => seqB_ready hL.1) l.length listed a inv (Region.free_spec h0 hf) hr' hy
      (anyL_lex hsel hs hc hn l (k + 1) _ _ (fun j hj => by have := hl (j + 1) (by simp; omega); simpa [Nat.add_assoc, Nat.add_comm 1 j] using this) (by simp only [List.length_cons] at hk; omega) (inv.set hr' hkn) hB' hK)
theorem tail {id : Nat} {Q : Exit → Act → World → Prop} {a : Act} {w : World} {l : List Oper} (C : World → Prop) (n : Nat) (hm : P.follows .mixedOrders = true) (hB : Region.lexTailB .any l.toArray n = true) (hC : C w.drew)
    (h : wpQuiet P l.toArray C (fun a' => ∀ w', C w' → wpList P l.toArray Q (l.drop n) a' w') (l.take n) a) : (Code.region id l.toArray true).wp P Q a w := by
  simp only [Region.lexTailB, Bool.and_eq_true, decide_eq_true_eq] at hB
  obtain ⟨⟨⟨⟨hsel, hn⟩, hs⟩, hc⟩, hlex⟩ := hB
  have hn' : n < l.length := by simpa using hn
  have htl : (l.take n).length = n := by simp; omega
  have hdl : (l.drop n).length = l.toArray.size - n := by simp
  have inv0 : HeadInv .any l.toArray n (Array.replicate l.toArray.size false) :=
    ⟨by simp, fun j oj _ hl => (by rw [getD_replicate_false] at hl; cases hl), fun t _ ht => getD_in (by simpa using ht) (getD_replicate_false _ _)⟩
  have H := anyL_lex (md := .any) (g := l.toArray.size - n) hsel hs hc hn (l.take n) 0 _ a (fun j hj => by
    have hj' : j < n := by rw [htl] at hj; exact hj
    simp [hj']) (by simpa using htl) inv0 (by rw [htl]; exact hlex) h
  refine wp_region_any hm ?_
  have := any_of_head (Q' := Q) (C := C) (g := l.toArray.size - n) (fun listed a' w' hw' hL => by
    have := wpAny_of_seq (md := .any) (Q' := Q) (l.drop n) n listed a' w' (fun j => by simp [List.getElem?_drop]) (by rw [hdl]; exact hL.1) (hL.2 w' hw')
    rwa [hdl] at this) _ _ _ w.drew hC H
  rw [htl, show n + (l.toArray.size - n) = l.toArray.size by omega] at this
  exact this
theorem whole {id : Nat} {Q : Exit → Act → World → Prop} {a : Act} {w : World} {l : List Oper} (C : World → Prop) (hm : P.follows .mixedOrders = true) (hB : Region.lexB .any l.toArray = true) (hC : C w.drew)
    (h : wpQuiet P l.toArray C (fun a' => ∀ w', C w' → Q .normal a' w') l a) : (Code.region id l.toArray true).wp P Q a w :=
  wp_region_quiet hm hB hC (by simpa using h)
theorem step {Q : Act → Prop} {a : Act} {o : Oper} {rest : List Oper} (v : Value) (hg : o.guard = none) (hrun : ∀ w, C w → o.quietAt P a C w v)
    (h : wpQuiet P ops C Q rest (a.put o.dst v)) : wpQuiet P ops C Q (o :: rest) a := by
  simp only [wpQuiet, Region.wanted, hg, if_true]
  exact ⟨v, hrun, h⟩
theorem stepK {Q : Act → Prop} {a : Act} {o : Oper} {rest : List Oper} (hg : o.guard = none)
    (h : ∀ K : Act → Prop, (∀ a, wpQuiet P ops C Q rest a → K a) → ∃ v, (∀ w, C w → Oper.quietUpon P C w v ((execOp a.eval o).run P w)) ∧ K (a.put o.dst v)) : wpQuiet P ops C Q (o :: rest) a := by
  obtain ⟨v, hrun, hk⟩ := h _ (fun _ h => h)
  exact step v hg hrun hk
theorem skip {Q : Act → Prop} {a : Act} {o : Oper} {rest : List Oper} (hg : Region.wanted o (yielded ops a.tmps) = false)
    (h : ∀ K : Act → Prop, (∀ a, wpQuiet P ops C Q rest a → K a) → K (a.put o.dst undef)) : wpQuiet P ops C Q (o :: rest) a := by
  have h' := h _ (fun _ h => h)
  simp only [wpQuiet, hg]
  exact h'
end
@[go_sem] theorem setCell_drewN (w : World) (n : Nat) (a : Addr) (v : Value) : (w.drewN n).setCell a v = (w.setCell a v).drewN n := rfl
@[go_sem] theorem alloc_drewN (w : World) (n : Nat) (o : Obj) : (w.drewN n).alloc o = (w.alloc o).drewN n := rfl
end Rg
end Go.Proofs.YtmonkggoilhngaaGreatDoor
/- Slices that are read, and the built-in append, as laws for a walk. Conditions: the bounds that append has in the model (lengths that fit, at most 2^47 bytes). -/
namespace Go.Proofs.YtmonkggoilhngaaGreatDoor
open Go.RowKit
namespace Mem
def Rd (w : World) (size : Nat) (v : Value) (n : Nat) (xs : List Value) : Prop :=
  xs.length = n * size ∧ ((v = .slice none 0 0 ∧ n = 0) ∨
    ∃ b off cap, v = .slice (some ⟨b, off, none⟩) n cap ∧ b < w.heap.size ∧ n ≤ cap ∧ cap ≤ maxLen ∧ ∀ j u, xs[j]? = some u → w.cell? ⟨b, off + j, none⟩ = some u)
section
variable {w w' : World} {base size n m : Nat} {e : TypeId} {v x : Value} {xs news : List Value}
theorem Rd.nil (w : World) (size : Nat) : Rd w size (.slice none 0 0) 0 [] := ⟨by simp, .inl ⟨rfl, rfl⟩⟩
theorem addr_add (b o j : Nat) : (⟨b, o, none⟩ : Addr).add j = ⟨b, o + j, none⟩ := by
  unfold Addr.add; split <;> simp_all
theorem Rd.of_own (h : w.ownsRow base e size v n xs) : Rd w size v n xs := by
  refine ⟨h.1, ?_⟩
  rcases h.2 with hn | ⟨g, cap, cur, rfl, hb, hg, hnc, hcm, hcs, htake⟩
  · exact .inl hn
  · refine .inr ⟨g, 0, cap, rfl, (Array.getElem?_eq_some_iff.1 hg).1, hnc, hcm, fun j u hu => ?_⟩
    have := h.cells (g := g) rfl j u hu
    rwa [addr_add] at this
theorem Rd.kept (h : Rd w size v n xs) {row : Option Nat} (hg : w.grownBy w' row) (hne : v.ownBlock = none ∨ v.ownBlock ≠ row) : Rd w' size v n xs := by
  refine ⟨h.1, ?_⟩
  rcases h.2 with hn | ⟨b, off, cap, rfl, hb, hnc, hcm, hc⟩
  · exact .inl hn
  · refine .inr ⟨b, off, cap, rfl, Nat.lt_of_lt_of_le hb hg.size, hnc, hcm, fun j u hu => ?_⟩
    exact hg.cell (hc j u hu) (by simpa [Value.ownBlock] using hne)
theorem Rd.below (h : Rd w size v n xs) (hb : Below w.heap.size w w') : Rd w' size v n xs := by
  refine ⟨h.1, ?_⟩
  rcases h.2 with hn | ⟨b, off, cap, rfl, hlt, hnc, hcm, hc⟩
  · exact .inl hn
  · exact .inr ⟨b, off, cap, rfl, Nat.lt_of_lt_of_le hlt hb.size, hnc, hcm, fun j u hu => (hb.cell (p := ⟨b, off + j, none⟩) hlt).trans (hc j u hu)⟩
theorem Rd.drewN (h : Rd w size v n xs) (k : Nat) : Rd (w.drewN k) size v n xs := h
theorem Rd.src {P : Program} {t e' : TypeId} (hk : P.underlying t = some (.slice e')) (h : Rd w size x m news) (h1 : ∀ u ∈ news, u.oneCell' = true) : Src P size t x m news w := by
  rcases h.2 with ⟨rfl, rfl⟩ | ⟨b, off, cap, rfl, _, _, _, hc⟩
  · have : news = [] := List.eq_nil_of_length_eq_zero (by simpa using h.1)
    subst this
    exact Src.ofNil w hk 0
  · exact Src.ofSlice w hk _ m cap news h.1 (fun j u hu => by rw [addr_add]; exact hc j u hu) h1
theorem below_of_grown {B : Nat} {row : Option Nat} (hg : w.grownBy w' row) (hB : B ≤ w.heap.size) (hr : ∀ k, row = some k → B ≤ k) : Below B w w' :=
  (Below.refl B w).grown hg hB hr
theorem app_own {P : Program} {ops : Array Oper} {rest : List Oper} {o : Oper} {a : Act} {Q : Exit → Act → World → Prop} (hgd : o.guard = none) (s y : Operand) (t : TypeId)
    (ho : o.op = .call { callee := .builtin .append, args := #[s, y], argTypes := #[t, t] })
    (base : Nat) (e : TypeId) (i : TypeInfo) (z : Value) (size bytes : Nat) (ht : P.underlying t = some (.slice e)) (hi : P.info? e = some i) (hz : i.zero = some z)
    (hsize : i.size = size) (hby : i.bytes = bytes) (hzs : z.cells.size = size) (hsz : 0 < size)
    (v : Value) (n : Nat) (xs : List Value) (hs : a.eval s = v) (hown : w.ownsRow base e size v n xs)
    (x : Value) (m : Nat) (news : List Value) (hx : a.eval y = x) (hsrc : Rd w size x m news) (h1 : ∀ u ∈ news, u.oneCell' = true)
    (h63 : n + m ≤ maxLen) (hbytes : (n + m) * bytes ≤ 140737488355328) (hbase : base ≤ w.heap.size)
    (h : ∀ v' w', w'.ownsRow base e size v' (n + m) (xs ++ news) → w.grownBy w' v.ownBlock → (v' = .slice none 0 0 ↔ v = .slice none 0 0 ∧ m = 0) → wpList P ops Q rest (a.put o.dst v') w') : wpList P ops Q (o :: rest) a w := by
  rcases hsrc.2 with ⟨rfl, rfl⟩ | ⟨b, off, cap, rfl, _, _, _, hc⟩
  · have hn : news = [] := List.eq_nil_of_length_eq_zero (by simpa using hsrc.1)
    subst hn
    refine wpList_append_own_none hgd s y t ho base e i size ht hi v n xs hs hown hx (h v w (by simpa using hown) ⟨rfl, rfl, rfl, Nat.le_refl _, fun _ _ _ => rfl⟩ ?_)
    simp
  · exact wpList_append_own w hgd s y t ho base e i z size bytes ht hi hz hsize hby hzs hsz v n xs hs hown ⟨b, off, none⟩ m cap news hx hsrc.1 (fun j u hu => by rw [addr_add]; exact hc j u hu) h1 h63 hbytes hbase h
theorem zeroCells_size (z : Array Value) (n : Nat) : (Builtin.zeroCells z n).size = n * z.size := by simp [Builtin.zeroCells]
theorem app_full {P : Program} {ops : Array Oper} {rest : List Oper} {o : Oper} {a : Act} {Q : Exit → Act → World → Prop} (hgd : o.guard = none) (s y : Operand) (t : TypeId)
    (ho : o.op = .call { callee := .builtin .append, args := #[s, y], argTypes := #[t, t] })
    (e : TypeId) (i : TypeInfo) (z : Value) (size bytes : Nat) (ht : P.underlying t = some (.slice e)) (hi : P.info? e = some i) (hz : i.zero = some z)
    (hsize : i.size = size) (hby : i.bytes = bytes) (hzs : z.cells.size = size)
    (p : Option Addr) (n : Nat) (xs : List Value) (hs : a.eval s = .slice p n n) (hold : Rd w size (.slice p n n) n xs)
    (x : Value) (m : Nat) (news : List Value) (hx : a.eval y = x) (hsrc : Rd w size x m news) (h1 : ∀ u ∈ news, u.oneCell' = true)
    (h63 : n + m ≤ maxLen) (hbytes : (n + m) * bytes ≤ 140737488355328)
    (h : ∀ v' w', Rd w' size v' (n + m) (xs ++ news) → Below w.heap.size w w' → (v' = .slice p n n ∨ ∃ g cap, v' = .slice (some ⟨g, 0, none⟩) (n + m) cap ∧ w.heap.size ≤ g) → wpList P ops Q rest (a.put o.dst v') w') : wpList P ops Q (o :: rest) a w := by
  subst hsize
  subst hby
  have hS := hsrc.src ht h1
  have hlen : (xs ++ news).length = (n + m) * i.size := by rw [List.length_append, hold.1, hsrc.1, Nat.add_mul]
  refine wpList_plain hgd fun K hK => ?_
  by_cases hm : m = 0
  · subst hm
    have hn : news = [] := List.eq_nil_of_length_eq_zero (by simpa using hsrc.1)
    subst hn
    have hrun : (Builtin.append_ #[t, t] o.type #[.slice p n n, x]).run P w = .ok (.slice p n n) w := by
      have hc := hS.cells
      cases p <;> simp [Builtin.append_, run_underlying ht, sizeOf, typeInfo, hi, hS.len, hc, storeCells]
    unfold Oper.wp
    simp [execOp, ho, resolve, invoke, builtin, hs, hx, hrun, Result.andThen]
    exact hK _ _ (h _ _ (by simpa using hold) (Below.refl _ _) (.inl rfl))
  · have hfirst : (Builtin.firstCells i.size n (.slice p n n)).run P w.drew = .ok xs.toArray w.drew := by
      have hold' := hold
      rcases hold'.2 with ⟨hv, hn⟩ | ⟨b, off, cap, hv, _, _, _, hc⟩
      · cases hv
        have : xs = [] := List.eq_nil_of_length_eq_zero (by simpa using hold.1)
        subst this
        exact run_firstCells_none w.drew i.size 0 0 0
      · cases hv
        exact run_firstCells_some w.drew i.size n ⟨b, off, none⟩ n _ xs hold.1 (fun j u hu => by rw [addr_add]; simpa using hc j u hu)
    have hrun := run_append_grow_src (P := P) w t t o.type e i z ht hi hz p n n xs hfirst x m news hS (by omega) (by unfold maxLen at h63; omega) (growslice_fits (by omega) hbytes)
    unfold Oper.wp
    simp [execOp, ho, resolve, invoke, builtin, hs, hx, hrun, Result.andThen]
    refine hK _ _ (h _ _ ?_ ?_ (.inr ⟨_, _, rfl, Nat.le_refl _⟩))
    · have hge := grownCap_ge w (n + m) n e
      refine ⟨hlen, .inr ⟨w.heap.size, 0, _, rfl, by simp, hge, grownCap_le_maxLen w (n + m) n e h63, fun j u hu => ?_⟩⟩
      rw [Nat.zero_add, World.alloc_drew, World.cell?_drew]
      have hj := (List.getElem?_eq_some_iff.1 hu).1
      rw [World.cell?_alloc_at _ _ _ _ rfl, Array.getElem?_append_left (by simpa using hj)]
      simpa using hu
    · exact Below.drew ((Below.refl _ _).alloc (Nat.le_refl _) _)
end
theorem Rd_lit (w : World) (cs : Array Value) (e : TypeId) (size n : Nat) (hs : cs.size = n * size) (hm : n ≤ maxLen) : Rd (w.alloc (.cells cs e)) size (.slice (some ⟨w.heap.size, 0, none⟩) n n) n cs.toList :=
  Rd.of_own (World.ownsRow_lit (base := 0) w cs n (Nat.zero_le _) hm hs)
theorem q_load {P : Program} {ops : Array Oper} {C : World → Prop} {Q : Act → Prop} {a : Act} {o : Oper} {rest : List Oper} (hg : o.guard = none) (ty : TypeId) (y : Operand) (ho : o.op = .load ty y) (v : Value)
    (hrun : ∀ w, C w → (Instr.loadAt ty (a.eval y)).run P w = .ok v w)
    (h : ∀ K : Act → Prop, (∀ a, wpQuiet P ops C Q rest a → K a) → K (a.put o.dst v)) : wpQuiet P ops C Q (o :: rest) a :=
  Rg.step v hg (fun w hw => by
    unfold Oper.quietAt execOp
    simp only [ho, Sem.run_bind, hrun w hw, Result.andThen_ok, Sem.run_pure]
    exact ⟨rfl, rfl⟩) (h _ (fun _ h => h))
def bys (l : List UInt8) : List Value := l.map fun b => Value.int .u8 (b.toNat : Int)
theorem bys_append (l r : List UInt8) : bys (l ++ r) = bys l ++ bys r := by simp [bys]
theorem bys_length (l : List UInt8) : (bys l).length = l.length := by simp [bys]
theorem bys_one (l : List UInt8) : ∀ u ∈ bys l, u.oneCell' = true := by
  intro u hu; simp [bys] at hu; obtain ⟨x, _, rfl⟩ := hu; rfl
theorem bys_get (l : List UInt8) (k : Nat) (h : k < l.length) : (bys l)[k]? = some (.int .u8 ((l.getD k 0).toNat : Int)) := by
  simp [bys, List.getD, h]
theorem l_load {P : Program} {ops : Array Oper} {Q : Exit → Act → World → Prop} {a : Act} {w : World} {o : Oper} {rest : List Oper} (hg : o.guard = none) (ty : TypeId) (y : Operand) (ho : o.op = .load ty y) (v : Value)
    (hrun : (Instr.loadAt ty (a.eval y)).run P w = .ok v w) (h : wpList P ops Q rest (a.put o.dst v) w) : wpList P ops Q (o :: rest) a w :=
  wpList_plain hg fun _ hK => by
    unfold Oper.wp execOp
    simp only [ho, Sem.run_bind, hrun, Result.andThen_ok, Sem.run_pure]
    exact hK _ _ h
theorem below_app {B : Nat} {w0 w w' : World} {base : Nat} {e : TypeId} {size n : Nat} {v : Value} {xs : List Value} {o : Obj} (hb : Below B w0 w) (hB : B ≤ w.heap.size) (hown : (w.alloc o).ownsRow base e size v n xs) (hbase : B ≤ base) (hg : (w.alloc o).grownBy w' v.ownBlock) : Below B w0 w' :=
  (hb.alloc hB o).grown hg (by simp; omega) (fun k hk => Nat.le_trans hbase (hown.lt k hk).1)
end Mem
end Go.Proofs.YtmonkggoilhngaaGreatDoor
/- A slice of the call's own, its block marked as a string's or not; append onto it from a slice or a string; a string turned into bytes. Conditions: append's bounds in the model. -/
namespace Go.Proofs.YtmonkggoilhngaaGreatDoor
open Go.RowKit
namespace Mem
def Ow (w : World) (base : Nat) (e : TypeId) (size : Nat) (v : Value) (n : Nat) (xs : List Value) : Prop :=
  xs.length = n * size ∧
  ((v = .slice none 0 0 ∧ n = 0) ∨
   ∃ g cap cur fz, v = .slice (some ⟨g, 0, none⟩) n cap ∧ base ≤ g ∧ w.heap[g]? = some (.cells cur e fz) ∧ (∀ j, j < cur.size → ¬ (fz.1 ≤ j ∧ j < fz.2)) ∧ n ≤ cap ∧ cap ≤ maxLen ∧ cur.size = cap * size ∧ cur.toList.take (n * size) = xs)
section
variable {w w' : World} {base size n m : Nat} {e : TypeId} {v x : Value} {xs news : List Value}
theorem Ow.of_own (h : w.ownsRow base e size v n xs) : Ow w base e size v n xs := by
  refine ⟨h.1, ?_⟩
  rcases h.2 with hn | ⟨g, cap, cur, hv, hb, hg, hnc, hcm, hcs, ht⟩
  · exact .inl hn
  · exact .inr ⟨g, cap, cur, (0, 0), hv, hb, hg, fun j _ => by simp, hnc, hcm, hcs, ht⟩
theorem Ow.nil (w : World) (base : Nat) (e : TypeId) (size : Nat) : Ow w base e size (.slice none 0 0) 0 [] := ⟨by simp, .inl ⟨rfl, rfl⟩⟩
theorem Ow.lit (w : World) (cs : Array Value) (e : TypeId) (size n base : Nat) (hb : base ≤ w.heap.size) (hm : n ≤ maxLen) (hs : cs.size = n * size) :
    Ow (w.alloc (.cells cs e)) base e size (.slice (some ⟨w.heap.size, 0, none⟩) n n) n cs.toList := Ow.of_own (World.ownsRow_lit w cs n hb hm hs)
theorem Ow.lt (h : Ow w base e size v n xs) : ∀ k, v.ownBlock = some k → base ≤ k ∧ k < w.heap.size := by
  intro k hk
  rcases h.2 with ⟨rfl, _⟩ | ⟨g, cap, cur, fz, rfl, hb, hg, _⟩
  · cases hk
  · cases hk; exact ⟨hb, (Array.getElem?_eq_some_iff.1 hg).1⟩
theorem Ow.kept {row : Option Nat} (h : Ow w base e size v n xs) (hg : w.grownBy w' row) (hne : v.ownBlock = none ∨ v.ownBlock ≠ row) : Ow w' base e size v n xs := by
  refine ⟨h.1, ?_⟩
  rcases h.2 with hn | ⟨g, cap, cur, fz, rfl, hb, hgg, rest⟩
  · exact .inl hn
  · refine .inr ⟨g, cap, cur, fz, rfl, hb, ?_, rest⟩
    rw [hg.block g (Array.getElem?_eq_some_iff.1 hgg).1 (by simpa [Value.ownBlock] using hne)]
    exact hgg
theorem Ow.alloc (h : Ow w base e size v n xs) (o : Obj) : Ow (w.alloc o) base e size v n xs := h.kept (World.grownBy_alloc w o none) (by cases hv : v.ownBlock <;> simp)
theorem Ow.below (h : Ow w base e size v n xs) (hb : Below w.heap.size w w') : Ow w' base e size v n xs :=
  h.kept (row := none) ⟨hb.os, hb.tape, hb.output, hb.size, fun k hk _ => hb.block k hk⟩ (by cases hv : v.ownBlock <;> simp)
theorem Rd.of_ow (h : Ow w base e size v n xs) : Rd w size v n xs := by
  refine ⟨h.1, ?_⟩
  rcases h.2 with hn | ⟨g, cap, cur, fz, rfl, hb, hg, _, hnc, hcm, hcs, htake⟩
  · exact .inl hn
  · refine .inr ⟨g, 0, cap, rfl, (Array.getElem?_eq_some_iff.1 hg).1, hnc, hcm, fun j u hu => ?_⟩
    rw [Nat.zero_add, cell_of_row w g j cur e fz hg]
    rw [← htake, List.getElem?_take] at hu
    split at hu
    · simpa using hu
    · cases hu
theorem setCells_block (g : Nat) (e : TypeId) (fz : Nat × Nat) : ∀ (vs : List Value) (o : Nat) (w : World) (cur : Array Value), w.heap[g]? = some (.cells cur e fz) →
    ∃ cur' : Array Value, (w.setCells g o vs).heap[g]? = some (.cells cur' e fz) ∧ cur'.size = cur.size ∧ (∀ j, cur'[j]? = if o ≤ j ∧ j < o + vs.length ∧ j < cur.size then vs[j - o]? else cur[j]?) ∧ w.grownBy (w.setCells g o vs) (some g)
  | [], o, w, cur, h => ⟨cur, h, rfl, fun j => by rw [if_neg (by simp; omega)], ⟨rfl, rfl, rfl, Nat.le_refl _, fun _ _ _ => rfl⟩⟩
  | u :: r, o, w, cur, h => by
    have h1 : (w.setCell ⟨g, o, none⟩ u).heap[g]? = some (.cells (cur.setIfInBounds o u) e fz) := by
      rw [setCell_eq_setRow w g o cur e fz u h]; exact setRow_heap w g cur _ e fz h
    obtain ⟨cur', h2, h3, h4, h5⟩ := setCells_block g e fz r (o + 1) _ _ h1
    refine ⟨cur', h2, by rw [h3]; simp, fun j => ?_, ⟨h5.os, h5.tape, h5.output, Nat.le_trans (by simp) h5.size, fun k hk hne => (h5.block k (by simpa using hk) hne).trans (heap_setCell_other _ _ _ _ (by intro e'; apply hne; rw [e']))⟩⟩
    rw [h4 j]
    simp only [Array.size_setIfInBounds, List.length_cons]
    by_cases hj : j = o
    · subst hj
      rw [if_neg (by omega)]
      by_cases hs : j < cur.size
      · rw [if_pos (by omega)]; simp [hs]
      · rw [if_neg (by omega)]; simp [hs]
    · by_cases hj2 : o + 1 ≤ j ∧ j < o + 1 + r.length ∧ j < cur.size
      · rw [if_pos hj2, if_pos (by omega), show j - o = (j - (o + 1)) + 1 by omega]; simp
      · rw [if_neg hj2]
        rw [Array.getElem?_setIfInBounds_ne (by omega), if_neg (by omega)]
theorem Ow.drewN (h : Ow w base e size v n xs) (k : Nat) : Ow (w.drewN k) base e size v n xs := h
theorem run_app_ow {P : Program} {t tx ty : TypeId} {i : TypeInfo} {z : Value} {bytes : Nat} (ht : P.underlying t = some (.slice e)) (hi : P.info? e = some i) (hz : i.zero = some z)
    (hsize : i.size = size) (hby : i.bytes = bytes) (hzs : z.cells.size = size)
    (hown : Ow w base e size v n xs) (hsrc : Src P size tx x m news w)
    (h63 : n + m ≤ maxLen) (hbytes : (n + m) * bytes ≤ 140737488355328) (hbase : base ≤ w.heap.size) :
    ∃ v' w', (Builtin.append_ #[t, tx] ty #[v, x]).run P w = .ok v' w' ∧ Ow w' base e size v' (n + m) (xs ++ news) ∧ w.grownBy w' v.ownBlock := by
  subst hsize
  subst hby
  have hlen : (xs ++ news).length = (n + m) * i.size := by rw [List.length_append, hown.1, hsrc.newsLen, Nat.add_mul]
  have hsmall : n + m ≤ 9223372036854775807 := by simp only [maxLen] at h63; omega
  have grown : ∀ (p : Option Addr) (old : Nat), old < n + m → v = .slice p n old → (Builtin.firstCells i.size n (.slice p n old)).run P w.drew = .ok xs.toArray w.drew →
      ∃ v' w', (Builtin.append_ #[t, tx] ty #[v, x]).run P w = .ok v' w' ∧ Ow w' base e i.size v' (n + m) (xs ++ news) ∧ w.grownBy w' v.ownBlock := by
    intro p old ho hv hf
    subst hv
    have hr := run_append_grow_src (P := P) w t tx ty e i z ht hi hz p n old xs hf x m news hsrc ho (by omega) (growslice_fits (by omega) hbytes)
    have hge := grownCap_ge w (n + m) old e
    refine ⟨_, _, hr, ⟨hlen, .inr ⟨w.heap.size, _, _, (0, 0), rfl, hbase, heap_alloc_new w.drew _, fun j _ => by simp, hge, grownCap_le_maxLen w (n + m) old e h63, ?_, ?_⟩⟩, ⟨rfl, rfl, rfl, by simp, fun k hk _ => Rg.heap_alloc_past w.drew _ k hk⟩⟩
    · simp only [Array.size_append, List.size_toArray, zeroCells_size, hzs, hlen, ← Nat.add_mul]
      congr 1
      omega
    · simp only [Array.toList_append]
      rw [← hlen]
      exact List.take_left
  rcases hown.2 with ⟨rfl, rfl⟩ | ⟨g, cap, cur, fz, rfl, hbg, hg, hfz, hnc, hcm, hcs, htake⟩
  · have hx : xs = [] := List.eq_nil_of_length_eq_zero (by simpa using hown.1)
    subst hx
    by_cases hm : m = 0
    · subst hm
      have hn : news = [] := List.eq_nil_of_length_eq_zero (by simpa using hsrc.newsLen)
      subst hn
      refine ⟨.slice none 0 0, w, ?_, Ow.nil w base e i.size, ⟨rfl, rfl, rfl, Nat.le_refl _, fun _ _ _ => rfl⟩⟩
      have hc := hsrc.cells
      rcases hsrc.kind with ⟨e', hk⟩ | hk <;> simp [Builtin.append_, run_underlying ht, run_underlying hk, sizeOf, typeInfo, hi, hsrc.len, hc]
    · exact grown none 0 (by omega) rfl (run_firstCells_none w.drew i.size 0 0 0)
  · by_cases hroom : n + m ≤ cap
    · have hfit : n * i.size + news.length ≤ cur.size := by rw [hsrc.newsLen, hcs, ← Nat.add_mul]; exact Nat.mul_le_mul_right _ hroom
      have hr := run_append_room_src (P := P) w t tx ty e i ht hi g 0 n cap x m news hsrc hroom
        (fun j hj => by rw [cell_of_row w g _ cur e fz hg]; have : 0 + n * i.size + j < cur.size := by omega
                        rw [Array.getElem?_eq_getElem this]; rfl)
        (fun j hj => by
          have := hfz (0 + n * i.size + j) (by omega)
          unfold World.frozen?; simp only [hg]
          obtain ⟨lo, hi'⟩ := fz
          simp only [Bool.and_eq_false_iff, decide_eq_false_iff_not]
          simp only [not_and] at this
          by_cases h : lo ≤ 0 + n * i.size + j
          · exact .inr (this h)
          · exact .inl h)
      obtain ⟨cur', h2, h3, h4, h5⟩ := setCells_block g e fz news (0 + n * i.size) w cur hg
      refine ⟨_, _, hr, ⟨hlen, .inr ⟨g, cap, cur', fz, rfl, hbg, h2, fun j hj => hfz j (by omega), hroom, hcm, by omega, ?_⟩⟩, h5⟩
      apply List.ext_getElem?
      intro j
      rw [List.getElem?_take]
      have hx : (xs : List Value)[j]? = if j < n * i.size then cur[j]? else none := by
        rw [← htake, List.getElem?_take]; simp
      have hxl := hown.1
      by_cases hj : j < (n + m) * i.size
      · rw [if_pos hj]
        have hj' : j < cur.size := by
          have := Nat.mul_le_mul_right i.size hroom; omega
        have e4 := h4 j
        simp only [Nat.zero_add] at e4
        rw [Array.getElem?_toList, e4]
        rw [← hlen, List.length_append] at hj
        by_cases hjn : n * i.size ≤ j
        · rw [if_pos (by omega), List.getElem?_append_right (by omega), hxl]
        · rw [if_neg (by omega), List.getElem?_append_left (by omega), hx, if_pos (by omega)]
      · rw [if_neg hj, List.getElem?_eq_none (by omega)]
    · refine grown (some ⟨g, 0, none⟩) cap (by omega) rfl ?_
      have hrd := Rd.of_ow hown
      rcases hrd.2 with ⟨hv, _⟩ | ⟨b, off, cap', hv, _, _, _, hc⟩
      · cases hv
      · cases hv
        exact run_firstCells_some w.drew i.size n ⟨g, 0, none⟩ n cap xs hown.1 (fun j u hu => by rw [addr_add]; simpa using hc j u hu)
theorem app_ow {P : Program} {ops : Array Oper} {rest : List Oper} {o : Oper} {a : Act} {Q : Exit → Act → World → Prop} (hgd : o.guard = none) (s y : Operand) (t tx : TypeId)
    (ho : o.op = .call { callee := .builtin .append, args := #[s, y], argTypes := #[t, tx] })
    (base : Nat) (e : TypeId) (i : TypeInfo) (z : Value) (size bytes : Nat) (ht : P.underlying t = some (.slice e)) (hi : P.info? e = some i) (hz : i.zero = some z)
    (hsize : i.size = size) (hby : i.bytes = bytes) (hzs : z.cells.size = size)
    (v : Value) (n : Nat) (xs : List Value) (hs : a.eval s = v) (hown : Ow w base e size v n xs)
    (x : Value) (m : Nat) (news : List Value) (hx : a.eval y = x) (hsrc : Src P size tx x m news w)
    (h63 : n + m ≤ maxLen) (hbytes : (n + m) * bytes ≤ 140737488355328) (hbase : base ≤ w.heap.size)
    (h : ∀ v' w', Ow w' base e size v' (n + m) (xs ++ news) → w.grownBy w' v.ownBlock → wpList P ops Q rest (a.put o.dst v') w') : wpList P ops Q (o :: rest) a w := by
  obtain ⟨v', w', hr, h1, h2⟩ := run_app_ow (P := P) (ty := o.type) ht hi hz hsize hby hzs hown hsrc h63 hbytes hbase
  refine wpList_plain hgd fun K hK => ?_
  unfold Oper.wp
  simp [execOp, ho, resolve, invoke, builtin, hs, hx, hr, Result.andThen]
  exact hK _ _ (h v' w' h1 h2)
theorem Ow_form {w : World} {base : Nat} {e : TypeId} {size : Nat} {v : Value} {n : Nat} {xs : List Value} (h : Ow w base e size v n xs) : ∃ p c, v = .slice p n c := by
  rcases h.2 with ⟨rfl, rfl⟩ | ⟨g, cap, _, _, rfl, _⟩
  · exact ⟨_, _, rfl⟩
  · exact ⟨_, _, rfl⟩
end
theorem push_bytes : ∀ (l : List UInt8) (acc : ByteArray), (l.map fun b => (b.toNat : Int)).foldl (fun r n => r.push (UInt8.ofNat n.toNat)) acc = ⟨acc.data ++ l.toArray⟩
  | [], acc => by simp
  | b :: l, acc => by
    rw [List.map_cons, List.foldl_cons, push_bytes l]
    simp [ByteArray.push]
theorem run_conv_str {P : Program} {w : World} {v : Value} {n : Nat} {l : List UInt8} (h : Rd w 1 v n (bys l)) (ts t e : TypeId) (hts : P.underlying ts = some .string) (ht : P.underlying t = some (.slice e)) (he : P.underlying e = some (.int .u8)) :
    (convert t ts v).run P w = .ok (.string ⟨l.toArray⟩) w := by
  have hl : l.length = n := by have := h.1; rw [bys_length] at this; omega
  rcases h.2 with ⟨rfl, rfl⟩ | ⟨b, off, cap, rfl, _, _, _, hc⟩
  · have : l = [] := List.eq_nil_of_length_eq_zero hl
    subst this
    simp [convert, run_underlying hts, run_underlying ht, run_underlying he, Conv.bytesToString]
    rfl
  · have hld : (loadCells ⟨b, off, none⟩ n).run P w = .ok ((l.map fun b => (b.toNat : Int)).map (Value.int .u8)).toArray w := by
      have := run_loadCells_list (P := P) w ⟨b, off, none⟩ (bys l) (fun j u hu => by rw [addr_add]; exact hc j u hu)
      rw [bys_length, hl] at this
      rw [this]; simp [bys]
    have := run_bytesToString (P := P) w ⟨b, off, none⟩ n cap _ hld
    rw [push_bytes] at this
    simp [convert, run_underlying hts, run_underlying ht, run_underlying he, this]
end Mem
end Go.Proofs.YtmonkggoilhngaaGreatDoor
/- All blocks but some are as they were. Plain; no condition. -/
namespace Go.Proofs.YtmonkggoilhngaaGreatDoor
open Go.RowKit Mem
namespace Mem
structure Kp (S : Nat → Prop) (w w' : World) : Prop where
  os : w'.os = w.os
  tape : w'.tape = w.tape
  output : w'.output = w.output
  size : w.heap.size ≤ w'.heap.size
  block : ∀ k, k < w.heap.size → ¬ S k → w'.heap[k]? = w.heap[k]?
theorem Kp.of_below {S : Nat → Prop} {w w' : World} (h : Below w.heap.size w w') : Kp S w w' := ⟨h.os, h.tape, h.output, h.size, fun k hk _ => h.block k hk⟩
theorem Kp.trans {S T : Nat → Prop} {w w' w'' : World} (h : Kp S w w') (h' : Kp T w' w'') (hT : ∀ k, k < w.heap.size → T k → S k) : Kp S w w'' :=
  ⟨h'.os.trans h.os, h'.tape.trans h.tape, h'.output.trans h.output, Nat.le_trans h.size h'.size, fun k hk hn => (h'.block k (Nat.lt_of_lt_of_le hk h.size) (fun ht => hn (hT k hk ht))).trans (h.block k hk hn)⟩
theorem Kp.below {S : Nat → Prop} {w w' : World} {B : Nat} (h : Kp S w w') (hB : B ≤ w.heap.size) (hS : ∀ k, S k → B ≤ k) : Below B w w' :=
  ⟨h.os, h.tape, h.output, h.size, fun k hk => h.block k (Nat.lt_of_lt_of_le hk hB) (fun hs => by have := hS k hs; omega)⟩
end Mem
end Go.Proofs.YtmonkggoilhngaaGreatDoor

/- Steps of a drawn region that only yield: cuts of slices, strings of bytes; own slices of own slices. Conditions: the bounds that append has in the model. -/
import Derived.Test.YtmkoiddfkanmiaaDoorPerm
import Derived.Test.YtmkoiddfkanmiaaDoorOw
import Derived.Lib.SlBytesConst
namespace Go.Proofs.YtmkoiddfkanmiaaDoor
open Go.RowKit Mem
namespace Rp
section
variable {P : Program} {ops : Array Oper} {Q : Exit → Act → World → Prop} {tail : List Oper} {a : Act} {w : World} {o : Oper} {r : List (Oper × Bool)}
theorem s_run (v : Value) (hw : Region.wanted o (yielded ops a.tmps) = true) (hrun : ∀ x, Le w x → (execOp a.eval o).run P x = .ok (.value v) x)
    (h : ∀ K : Act → Prop, (∀ a, wpPerm P ops Q tail r a w → K a) → K (a.put o.dst v)) : wpPerm P ops Q tail ((o, true) :: r) a w :=
  .inl ⟨hw, v, hrun, h _ (fun _ h => h)⟩
theorem add_zero (p : Addr) : p.add 0 = p := rfl
theorem run_cut (t e : TypeId) (i : TypeInfo) (ht : P.underlying t = some (.slice e)) (hi : P.info? e = some i) (q : Option Addr) (n c k : Nat) (hk : k ≤ c) (x : World) :
    (Instr.slice t (.slice q n c) none (some (.int .i64 (k : Int))) none).run P x = .ok (.slice q k c) x := by
  have e0 : (if c = 0 then q else Option.map (fun p : Addr => p.add 0) q) = q := by
    split
    · rfl
    · cases q <;> rfl
  simp [Instr.slice, Instr.sliceBounds, Instr.sliceBound, asIntOf, Sem.run_bind, run_underlying ht, sizeOf, typeInfo, hi, hk, e0]
/-- s[:k]. -/
theorem s_cut (hw : Region.wanted o (yielded ops a.tmps) = true) (t : TypeId) (y z : Operand) (ho : o.op = .slice t y none (some z) none) (e : TypeId) (i : TypeInfo) (ht : P.underlying t = some (.slice e)) (hi : P.info? e = some i)
    (q : Option Addr) (n c k : Nat) (hy : a.eval y = .slice q n c) (hz : a.eval z = .int .i64 (k : Int)) (hk : k ≤ c)
    (h : ∀ K : Act → Prop, (∀ a, wpPerm P ops Q tail r a w → K a) → K (a.put o.dst (.slice q k c))) : wpPerm P ops Q tail ((o, true) :: r) a w :=
  s_run _ hw (fun x _ => by
    have := run_cut (P := P) t e i ht hi q n c k hk x
    simp [execOp, ho, hy, hz, Instr.sliceAt, Sem.run_bind, run_underlying ht, this]) h
/-- string(b). -/
theorem s_str (hw : Region.wanted o (yielded ops a.tmps) = true) (t ts : TypeId) (y : Operand) (ho : o.op = .convert t ts y)
    (e : TypeId) (hts : P.underlying ts = some .string) (ht : P.underlying t = some (.slice e)) (he : P.underlying e = some (.int .u8))
    (v : Value) (n : Nat) (l : List UInt8) (hx : a.eval y = v) (hr : Rd w 1 v n (bys l))
    (h : ∀ K : Act → Prop, (∀ a, wpPerm P ops Q tail r a w → K a) → K (a.put o.dst (.string ⟨l.toArray⟩))) : wpPerm P ops Q tail ((o, true) :: r) a w :=
  s_run _ hw (fun x hx' => by
    have := run_conv_str (P := P) (hr.below hx') ts t e hts ht he
    simp [execOp, ho, hx, this]) h
end
end Rp
namespace Mem
section
variable {w w' : World} {base size n m : Nat} {e : TypeId} {v x : Value} {xs news : List Value}
/-- The first k of a slice. -/
theorem Rd_take {q : Option Addr} {c k : Nat} {l : List UInt8} (h : Rd w 1 (.slice q n c) n (bys l)) (hk : k ≤ n) : Rd w 1 (.slice q k c) k (bys (l.take k)) := by
  obtain ⟨h1, h2⟩ := h
  rw [bys_length] at h1
  refine ⟨by rw [bys_length, List.length_take]; omega, ?_⟩
  rcases h2 with ⟨hv, h0⟩ | ⟨b, off, cap, hv, hb, hnc, hcm, hc⟩
  · cases hv; exact .inl ⟨by rw [show k = 0 by omega], by omega⟩
  · cases hv
    refine .inr ⟨b, off, c, rfl, hb, by omega, hcm, fun j u hu => hc j u ?_⟩
    rw [← hu]
    have hj := (List.getElem?_eq_some_iff.1 hu).1
    rw [bys_length, List.length_take] at hj
    simp only [bys, List.getElem?_map, List.getElem?_take]
    rw [if_pos (by omega)]
theorem Rd_cap {q : Option Addr} {c : Nat} (h : Rd w size (.slice q n c) n xs) : n ≤ c ∧ c ≤ maxLen := by
  rcases h.2 with ⟨hv, h0⟩ | ⟨b, off, cap, hv, hb, hnc, hcm, hc⟩
  · cases hv; exact ⟨by omega, by unfold maxLen; omega⟩
  · cases hv; exact ⟨hnc, hcm⟩
/-- A slice of the call's own of slices of bytes of its own, that share nothing. -/
def OwnV (w : World) (base : Nat) (v : Value) (L : List (List UInt8)) (vs : List Value) : Prop :=
  Ow w base 24 1 v L.length vs ∧ (∀ (i : Nat) (x : Value), vs[i]? = some x → ∃ l : List UInt8, L[i]? = some l ∧ Ow w base 5 1 x l.length (bys l)) ∧
    (∀ (i j : Nat) (x y : Value) (b : Nat), i ≠ j → vs[i]? = some x → vs[j]? = some y → x.ownBlock = some b → y.ownBlock ≠ some b)
def OwnP (w : World) (base : Nat) (v : Value) (L : List (List UInt8)) : Prop := ∃ vs, OwnV w base v L vs
theorem OwnP.nil (w : World) (base : Nat) : OwnP w base (.slice none 0 0) [] := ⟨[], Ow.nil _ _ _ _, fun _ _ h => by simp at h, fun _ _ _ _ _ _ h => by simp at h⟩
theorem OwnP.below {L : List (List UInt8)} (h : OwnP w base v L) (hb : Below w.heap.size w w') : OwnP w' base v L := by
  obtain ⟨vs, h1, h2, h3⟩ := h
  exact ⟨vs, h1.below hb, fun i x hx => let ⟨l, hl, ho⟩ := h2 i x hx; ⟨l, hl, ho.below hb⟩, h3⟩
/-- Rows of unlike types lie in unlike blocks. -/
theorem Ow_apart {e' : TypeId} {size' n' : Nat} {ys : List Value} {base' : Nat} (h : Ow w base e size v n xs) (h' : Ow w base' e' size' x n' ys) (hne : e ≠ e') : ∀ b, x.ownBlock = some b → v.ownBlock ≠ some b := by
  intro b hb hv
  rcases h.2 with ⟨rfl, _⟩ | ⟨g, cap, cur, fz, rfl, _, hg, _⟩
  · cases hv
  · rcases h'.2 with ⟨rfl, _⟩ | ⟨g', cap', cur', fz', rfl, _, hg', _⟩
    · cases hb
    · cases hv; cases hb
      rw [hg] at hg'
      injection hg' with hg'
      injection hg' with _ ht _
      exact hne ht
theorem Ow_apart' {e' : TypeId} {size' n' : Nat} {ys : List Value} {base' : Nat} (h : Ow w base e size v n xs) (h' : Ow w base' e' size' x n' ys) (hne : e ≠ e') : x.ownBlock = none ∨ x.ownBlock ≠ v.ownBlock := by
  cases hx : x.ownBlock with
  | none => exact .inl rfl
  | some b => exact .inr fun he => Ow_apart h h' hne b hx he.symm
/-- One more part, of a block that is new. -/
theorem OwnV.push {w0 w1 w2 : World} {L : List (List UInt8)} {l : List UInt8} {v' : Value} {vs : List Value} (h : OwnV w0 base v L vs) (h01 : Below w0.heap.size w0 w1) (hx : Ow w1 base 5 1 x l.length (bys l))
    (hfresh : ∀ b, x.ownBlock = some b → w0.heap.size ≤ b) (hg : w1.grownBy w2 v.ownBlock)
    (hn : Ow w2 base 24 1 v' (L.length + 1) (vs ++ [x])) : OwnV w2 base v' (L ++ [l]) (vs ++ [x]) := by
  obtain ⟨h1, h2, h3⟩ := h
  have hlen : vs.length = L.length := by have := h1.1; omega
  have hv1 := h1.below h01
  refine ⟨by simpa using hn, fun i y hy => ?_, fun i j y z b hij hy hz hb => ?_⟩
  · rcases Nat.lt_or_ge i vs.length with hi | hi
    · rw [List.getElem?_append_left hi] at hy
      obtain ⟨l', hl', ho⟩ := h2 i y hy
      have ho1 := ho.below h01
      exact ⟨l', by rw [List.getElem?_append_left (by omega)]; exact hl', ho1.kept hg (Ow_apart' hv1 ho1 (by decide))⟩
    · rw [List.getElem?_append_right hi] at hy
      have h0 : i - vs.length = 0 := by
        rcases Nat.eq_zero_or_pos (i - vs.length) with h | h
        · exact h
        · rw [List.getElem?_eq_none (by simp; omega)] at hy; cases hy
      rw [h0] at hy
      have hyx : x = y := by simpa using hy
      subst hyx
      have hi' : i = L.length := by omega
      subst hi'
      exact ⟨l, by simp, hx.kept hg (Ow_apart' hv1 hx (by decide))⟩
  · have old : ∀ (i : Nat) (y : Value), vs[i]? = some y → ∀ b, y.ownBlock = some b → b < w0.heap.size := fun i y hy b hb => by
      obtain ⟨l', _, ho⟩ := h2 i y hy
      exact (ho.lt b hb).2
    have at' : ∀ (i : Nat) (y : Value), (vs ++ [x])[i]? = some y → (vs[i]? = some y ∧ i < vs.length) ∨ (x = y ∧ i = vs.length) := fun i y hy => by
      rcases Nat.lt_or_ge i vs.length with hi | hi
      · rw [List.getElem?_append_left hi] at hy; exact .inl ⟨hy, hi⟩
      · rw [List.getElem?_append_right hi] at hy
        rcases Nat.eq_zero_or_pos (i - vs.length) with h | h
        · rw [h] at hy; exact .inr ⟨by simpa using hy, by omega⟩
        · rw [List.getElem?_eq_none (by simp; omega)] at hy; cases hy
    intro hzb
    rcases at' i y hy with ⟨hy', hi⟩ | ⟨rfl, hi⟩
    · rcases at' j z hz with ⟨hz', hj⟩ | ⟨rfl, hj⟩
      · exact h3 i j y z b hij hy' hz' hb hzb
      · have := old i y hy' b hb; have := hfresh b hzb; omega
    · rcases at' j z hz with ⟨hz', hj⟩ | ⟨rfl, hj⟩
      · have := old j z hz' b hzb; have := hfresh b hb; omega
      · omega
/-- It reads as a list of parts. -/
theorem OwnP.cells {L : List (List UInt8)} (h : OwnP w base v L) : ∃ vs : List Value, Rd w 1 v L.length vs ∧ ∀ i, i < L.length → ∃ q c, vs[i]? = some (.slice q (L.getD i []).length c) ∧ Rd w 1 (.slice q (L.getD i []).length c) (L.getD i []).length (bys (L.getD i [])) := by
  obtain ⟨vs, h1, h2, _⟩ := h
  refine ⟨vs, Rd.of_ow h1, fun i hi => ?_⟩
  have hlen : vs.length = L.length := by have := h1.1; omega
  have hv : vs[i]? = some (vs[i]'(by omega)) := List.getElem?_eq_getElem (by omega)
  obtain ⟨l, hl, ho⟩ := h2 i _ hv
  have hL : L.getD i [] = l := by simp [List.getD, hl]
  rw [hL]
  obtain ⟨q, c, hq⟩ := Ow_form ho
  rw [hq] at hv ho
  exact ⟨q, c, hv, Rd.of_ow ho⟩
theorem Ow.base_le {base' : Nat} (h : Ow w base e size v n xs) (hb : base' ≤ base) : Ow w base' e size v n xs := by
  refine ⟨h.1, ?_⟩
  rcases h.2 with h' | ⟨g, cap, cur, fz, hv, hg, rest⟩
  · exact .inl h'
  · exact .inr ⟨g, cap, cur, fz, hv, by omega, rest⟩
/-- append onto a slice of the call's own that is empty and has no room: nothing of what was there turns. -/
theorem app_empty {P : Program} {ops : Array Oper} {rest : List Oper} {o : Oper} {a : Act} {Q : Exit → Act → World → Prop} (hgd : o.guard = none) (s y : Operand) (t tx : TypeId)
    (ho : o.op = .call { callee := .builtin .append, args := #[s, y], argTypes := #[t, tx] })
    (base : Nat) (e : TypeId) (i : TypeInfo) (z : Value) (size bytes : Nat) (ht : P.underlying t = some (.slice e)) (hi : P.info? e = some i) (hz : i.zero = some z)
    (hsize : i.size = size) (hby : i.bytes = bytes) (hzs : z.cells.size = size)
    (g : Nat) (hs : a.eval s = .slice (some ⟨g, 0, none⟩) 0 0) (hown : Ow w base e size (.slice (some ⟨g, 0, none⟩) 0 0) 0 [])
    (x : Value) (m : Nat) (news : List Value) (hx : a.eval y = x) (hsrc : Src P size tx x m news w)
    (h63 : m ≤ maxLen) (hbytes : m * bytes ≤ 140737488355328) (hbase : base ≤ w.heap.size)
    (h : ∀ v' w', Ow w' base e size v' m news → Below w.heap.size w w' → wpList P ops Q rest (a.put o.dst v') w') : wpList P ops Q (o :: rest) a w := by
  subst hsize
  subst hby
  refine wpList_plain hgd fun K hK => ?_
  by_cases hm : m = 0
  · subst hm
    have hn : news = [] := List.eq_nil_of_length_eq_zero (by simpa using hsrc.newsLen)
    subst hn
    have hrun : (Builtin.append_ #[t, tx] o.type #[.slice (some ⟨g, 0, none⟩) 0 0, x]).run P w = .ok (.slice (some ⟨g, 0, none⟩) 0 0) w := by
      have hc := hsrc.cells
      rcases hsrc.kind with ⟨e', hk⟩ | hk <;> simp [Builtin.append_, run_underlying ht, run_underlying hk, sizeOf, typeInfo, hi, hsrc.len, hc, storeCells]
    unfold Oper.wp
    simp [execOp, ho, resolve, invoke, builtin, hs, hx, hrun, Result.andThen]
    exact hK _ _ (h _ _ hown (Below.refl _ _))
  · have hf : (Builtin.firstCells i.size 0 (.slice (some ⟨g, 0, none⟩) 0 0)).run P w.drew = .ok ([] : List Value).toArray w.drew :=
      run_firstCells_some w.drew i.size 0 ⟨g, 0, none⟩ 0 _ [] (by simp) (fun j u hu => by simp at hu)
    have hrun := run_append_grow_src (P := P) w t tx o.type e i z ht hi hz (some ⟨g, 0, none⟩) 0 0 [] hf x m news hsrc (by omega) (by unfold maxLen at h63; omega) (growslice_fits (by omega) (by simpa using hbytes))
    have hge := grownCap_ge w (0 + m) 0 e
    have hle := grownCap_le_maxLen w (0 + m) 0 e (by simpa using h63)
    simp only [Nat.zero_add, List.nil_append] at hrun hge hle
    unfold Oper.wp
    simp [execOp, ho, resolve, invoke, builtin, hs, hx, hrun, Result.andThen]
    refine hK _ _ (h _ _ ⟨hsrc.newsLen, .inr ⟨w.heap.size, _, _, (0, 0), rfl, hbase, heap_alloc_new w.drew _, fun j _ => by simp, hge, hle, ?_, ?_⟩⟩ (Below.drew ((Below.refl _ _).alloc (Nat.le_refl _) _)))
    · simp only [Array.size_append, List.size_toArray, zeroCells_size, hzs, hsrc.newsLen, ← Nat.add_mul]
      congr 1
      omega
    · simp only [Array.toList_append]
      rw [← hsrc.newsLen]
      exact List.take_left
theorem take_min (X : List UInt8) (s : Nat) : X.take (min X.length s) = X.take s := by
  rcases Nat.le_total X.length s with h | h
  · rw [Nat.min_eq_left h, List.take_of_length_le (Nat.le_refl _), List.take_of_length_le h]
  · rw [Nat.min_eq_right h]
/-- '[]byte("abc")': the literal's row gets the mark of a string's bytes. -/
theorem conv_lit {P : Program} {ops : Array Oper} {rest : List Oper} {o : Oper} {a : Act} {Q : Exit → Act → World → Prop} (hgd : o.guard = none) (t : TypeId) (y : Operand) (ho : o.op = .convert t t y)
    (e : TypeId) (ht : P.underlying t = some (.slice e)) (he : P.underlying e = some (.int .u8)) (g n c : Nat) (hx : a.eval y = .slice (some ⟨g, 0, none⟩) n c)
    (w0 : World) (C : Array Value) (hw : w = w0.alloc (.cells C e)) (hg : g = w0.heap.size)
    (h : wpList P ops Q rest (a.put o.dst (.slice (some ⟨g, 0, none⟩) n c)) (w0.alloc (.cells C e (C.size, C.size + 1)))) : wpList P ops Q (o :: rest) a w := by
  subst hw hg
  refine wpList_plain hgd fun K hK => ?_
  have hrun := Lib.run_convert_bytes_const (P := P) w0 t e C n c ht he
  unfold Oper.wp
  simp [execOp, ho, hx, hrun, Result.andThen]
  exact hK _ _ h
theorem Ow.lit_marked (w : World) (cs : Array Value) (e : TypeId) (size n base : Nat) (hb : base ≤ w.heap.size) (hm : n ≤ maxLen) (hs : cs.size = n * size) :
    Ow (w.alloc (.cells cs e (cs.size, cs.size + 1))) base e size (.slice (some ⟨w.heap.size, 0, none⟩) n n) n cs.toList :=
  ⟨by simpa using hs, .inr ⟨w.heap.size, n, cs, (cs.size, cs.size + 1), rfl, hb, heap_alloc_new w _, fun j hj => by omega, Nat.le_refl _, hm, hs, by rw [← hs]; exact List.take_of_length_le (by simp)⟩⟩
end
end Mem
end Go.Proofs.YtmkoiddfkanmiaaDoor

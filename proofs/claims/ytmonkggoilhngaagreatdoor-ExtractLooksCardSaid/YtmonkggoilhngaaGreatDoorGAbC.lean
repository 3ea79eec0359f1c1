/- A reckoning with kinds: one operation. Plain; no condition. -/
import Derived.Test.YtmonkggoilhngaaGreatDoorGAbA
import Derived.Test.YtmonkggoilhngaaGreatDoorGRegion
import Derived.LoopN
import Derived.Test.YtmonkggoilhngaaGreatDoorChecked
namespace Go.Proofs.YtmonkggoilhngaaGreatDoor
set_option linter.unusedVariables false
set_option linter.unusedSimpArgs false
open Go.RowKit
namespace Ab
set_option warn.classDefReducibility false
attribute [local instance 100000] decEqI decLeI decLtI
def Yl (c : Ctx) (σ : S) (w : World) (s : Sem Value) (τ : T) : Prop := ∃ v w', s.run c.P w = .ok v w' ∧ Ans c.gt σ w v w' τ
theorem Ans.stay {gt : Gt} {σ : S} {w : World} {v : Value} {τ : T} (hw : WT gt σ w) (h : VT σ v τ) : Ans gt σ w v w τ := ⟨σ, Go1.refl _ _, hw, h⟩
theorem CT.put {σ : S} {C D : List Value} {l ks : List K} {o : Nat} (hC : CT σ C l) (hD : CT σ D ks) (h : o + ks.length ≤ l.length) :
    CT σ (C.take o ++ D ++ C.drop (o + D.length)) (l.take o ++ ks ++ l.drop (o + ks.length)) := by
  have hl := hC.1
  have hd := hD.1
  refine ⟨by simp [hl, hd], fun i κ hi => ?_⟩
  rw [List.append_assoc, List.getElem?_append] at hi ⊢
  simp only [List.length_take, List.length_append] at hi ⊢
  have e1 : min o l.length = o := by omega
  have e2 : min o C.length = o := by omega
  rw [e1] at hi
  rw [e2]
  split at hi
  · rename_i hlt
    rw [if_pos hlt]
    rw [List.getElem?_take, if_pos hlt] at hi ⊢
    exact hC.2 _ _ hi
  · rename_i hge
    rw [if_neg hge]
    rw [List.getElem?_append] at hi ⊢
    rw [hd]
    split at hi
    · rename_i hlt
      rw [if_pos hlt]
      exact hD.2 _ _ hi
    · rename_i hge2
      rw [if_neg hge2]
      rw [List.getElem?_drop] at hi ⊢
      exact hC.2 _ _ hi
def kb0 (κ κ' : K) : Bool :=
  decide (κ = κ') || decide (κ' = .any) || (match κ, κ' with
    | .nl, .sl _ => true
    | .nl, .ow _ _ => true
    | .ow n h, .ow n' h' => n == n' && Nat.ble h h'
    | .ow n h, .sl m => n == m && Nat.ble h 1000000
    | _, _ => false)
def kb (κ κ' : K) : Bool := nw κ && kb0 κ κ'
theorem kb_nw {κ κ' : K} (h : kb κ κ' = true) : nw κ' = true := by
  cases κ' <;> first | rfl | skip
  exfalso
  cases κ <;> simp [kb, kb0, nw] at h
theorem OW.sl {σ : S} {v : Value} {n lo hi : Nat} (h : OW σ v (List.replicate n (.int .u8)) lo hi) (hh : hi ≤ 1000000) : SL σ v n := by
  rcases h with ⟨rfl, _⟩ | ⟨b, len, cap, l, rfl, h1, h2, h3, h4, hb, h5, h6⟩
  · exact SL_nil σ n
  · refine ⟨_, len, cap, rfl, h3, h4, by omega, (fun h => nomatch h), fun p hp => ?_⟩
    cases hp
    refine ⟨rfl, true, l, hb, fun i hi => ?_⟩
    dsimp only
    rw [Nat.zero_add]
    rw [List.length_replicate] at h6
    have hn : 0 < n := Nat.pos_of_ne_zero (fun e => by subst e; simp at hi)
    have e1 : i / n * n + i % n = i := Nat.div_add_mod' i n
    have h7 := h6 (i / n) (i % n) (.int .u8) (by
      have := (Nat.div_lt_iff_lt_mul hn).2 hi
      omega) (by rw [List.getElem?_replicate, if_pos (Nat.mod_lt _ hn)])
    rwa [e1] at h7
theorem kb_ok {σ : S} {v : Value} {κ κ' : K} (h : kb κ κ' = true) (hv : KT σ v κ) : KT σ v κ' := by
  unfold kb at h
  rw [Bool.and_eq_true] at h
  obtain ⟨hn, h⟩ := h
  unfold kb0 at h
  simp only [Bool.or_eq_true, decide_eq_true_eq] at h
  rcases h with (rfl | rfl) | h
  · exact hv
  · exact hv.one hn
  · split at h
    · obtain rfl : v = _ := hv; exact SL_nil σ _
    · obtain rfl : v = _ := hv; exact .inl ⟨rfl, rfl⟩
    · rename_i n hh n' hh'
      rw [Bool.and_eq_true, beq_iff_eq, Nat.ble_eq] at h
      obtain ⟨rfl, h⟩ := h
      exact OW.wide hv (Nat.le_refl _) h
    · rename_i n hh m
      rw [Bool.and_eq_true, beq_iff_eq, Nat.ble_eq] at h
      obtain ⟨rfl, h⟩ := h
      exact OW.sl hv h
    · cases h
def kle (l l' : List K) : Bool := l.length == l'.length && (l.zip l').all fun x => kb x.1 x.2
theorem kle_ok {σ : S} {C : List Value} {l l' : List K} (h : kle l l' = true) (hC : CT σ C l) : CT σ C l' := by
  unfold kle at h
  rw [Bool.and_eq_true, beq_iff_eq, List.all_eq_true] at h
  refine ⟨hC.1.trans h.1, fun i κ hi => ?_⟩
  have hlt : i < l'.length := (List.getElem?_eq_some_iff.1 hi).1
  have hl : l[i]? = some (l[i]'(by omega)) := List.getElem?_eq_getElem _
  obtain ⟨v, h1, h2⟩ := hC.2 i _ hl
  have hz : (l[i]'(by omega), κ) ∈ l.zip l' := List.mem_iff_getElem?.2 ⟨i, by rw [List.getElem?_zip_eq_some]; exact ⟨hl, hi⟩⟩
  exact ⟨v, h1, kb_ok (h.2 _ hz) h2⟩
theorem kle_nw {l l' : List K} (h : kle l l' = true) : ∀ κ ∈ l', nw κ = true := by
  intro κ hκ
  unfold kle at h
  rw [Bool.and_eq_true, beq_iff_eq, List.all_eq_true] at h
  obtain ⟨i, hi, rfl⟩ := List.mem_iff_getElem.1 hκ
  have hz : (l[i]'(by omega), l'[i]) ∈ l.zip l' := List.mem_iff_getElem?.2 ⟨i, by rw [List.getElem?_zip_eq_some]; exact ⟨List.getElem?_eq_getElem _, List.getElem?_eq_getElem _⟩⟩
  exact kb_nw (h.2 _ hz)
inductive All2 {α β : Type} (R : α → β → Prop) : List α → List β → Prop
  | nil : All2 R [] []
  | cons {x : α} {y : β} {xs : List α} {ys : List β} : R x y → All2 R xs ys → All2 R (x :: xs) (y :: ys)
theorem fold_set (o : Nat) : ∀ (vs : List Value) (k : Nat) (cs : Array Value), o + k + vs.length ≤ cs.size →
    ((vs.zipIdx k).foldl (fun cs x => cs.setIfInBounds (o + x.2) x.1) cs).toList = cs.toList.take (o + k) ++ vs ++ cs.toList.drop (o + k + vs.length)
  | [], k, cs, _ => by simp
  | v :: vs, k, cs, h => by
    rw [List.zipIdx_cons, List.foldl_cons, fold_set o vs (k + 1) _ (by simp at h ⊢; omega)]
    simp only [List.length_cons] at h
    have hlt : o + k < cs.toList.length := by simp; omega
    rw [Array.toList_setIfInBounds]
    apply List.ext_getElem?
    intro i
    simp only [List.getElem?_append, List.length_take, List.length_set, Array.length_toList, List.getElem?_take, List.getElem?_set, List.getElem?_drop, List.length_append, List.length_cons]
    have m1 : min (o + (k + 1)) cs.size = o + k + 1 := by omega
    have m2 : min (o + k) cs.size = o + k := by omega
    rw [m1, m2]
    by_cases h1 : i < o + k
    · rw [if_pos (by omega), if_pos (by omega), if_pos (by omega), if_neg (by omega), if_pos (by omega), if_pos h1, if_pos h1]
    · by_cases h2 : i = o + k
      · subst h2
        rw [if_pos (by omega), if_pos (by omega), if_pos (by omega), if_pos rfl, if_pos (by simpa using hlt), if_pos (by omega), if_neg (by omega), Nat.sub_self]
        rfl
      · by_cases h3 : i < o + k + 1 + vs.length
        · rw [if_pos (by omega), if_neg (by omega), if_pos (by omega), if_neg (by omega), show i - (o + k) = (i - (o + k + 1)) + 1 by omega, List.getElem?_cons_succ]
        · rw [if_neg (by omega), if_neg (by omega), if_neg (by omega)]
          congr 1
          omega
def fillK (place : Nat → Option (Nat × Nat)) (l : List K) : List (Nat × List K) → Option (List K)
  | [] => some l
  | (i, ks) :: rest =>
    match place i with
    | none => none
    | some (off, size) => if ks.length = size ∧ off + ks.length ≤ l.length then fillK place (l.take off ++ ks ++ l.drop (off + ks.length)) rest else none
theorem fill_ok {σ : S} (place : Nat → Option (Nat × Nat)) : ∀ (ps : List (Nat × Value)) (qs : List (Nat × List K)) (C : Array Value) (l l' : List K), CT σ C.toList l → fillK place l qs = some l' →
    All2 (fun (p : Nat × Value) (q : Nat × List K) => p.1 = q.1 ∧ CT σ p.2.cells.toList q.2) ps qs → ∃ C' : Array Value, Instr.fill place C ps = some C' ∧ CT σ C'.toList l'
  | [], [], C, l, l', hC, h, _ => by cases h; exact ⟨C, rfl, hC⟩
  | (i, v) :: ps, (j, ks) :: qs, C, l, l', hC, h, hp => by
    cases hp with
    | cons hh ht =>
      obtain ⟨rfl, hv⟩ := hh
      unfold fillK at h
      unfold Instr.fill
      cases hpl : place i with
      | none => simp [hpl] at h
      | some os =>
        obtain ⟨off, size⟩ := os
        simp only [hpl] at h ⊢
        split at h
        · rename_i hc
          have h1 := hv.1
          have h2 := hC.1
          simp only [Array.length_toList] at h1 h2
          rw [if_neg (by simp; omega)]
          refine fill_ok place ps qs _ _ _ ?_ h ht
          have he : (v.cells.zipIdx.foldl (fun cs x => cs.setIfInBounds (off + x.2) x.1) C) = ((v.cells.toList.zipIdx 0).foldl (fun cs x => cs.setIfInBounds (off + x.2) x.1) C) := by
            rw [← Array.foldl_toList, Array.toList_zipIdx]
          have hf := fold_set off v.cells.toList 0 C (by simp; omega)
          show CT σ (v.cells.zipIdx.foldl (fun cs x => cs.setIfInBounds (off + x.2) x.1) C).toList _
          rw [he, hf, Nat.add_zero]
          exact hC.put hv hc.2
        · cases h
  | [], _ :: _, _, _, _, _, _, hp => nomatch hp
  | _ :: _, [], _, _, _, _, _, hp => nomatch hp
noncomputable def partsK (c : Ctx) (Γ : Env) : List (Nat × Operand) → Option (List (Nat × List K))
  | [] => some []
  | (i, x) :: r => match knd (ty c.gt Γ x), partsK c Γ r with
    | some ks, some q => some ((i, ks) :: q)
    | _, _ => none
theorem partsK_ok {c : Ctx} {σ : S} {a : Act} {Γ : Env} : ∀ (ps : List (Nat × Operand)) (qs : List (Nat × List K)), (∀ p ∈ ps, VT σ (a.eval p.2) (ty c.gt Γ p.2)) → partsK c Γ ps = some qs →
    All2 (fun (p : Nat × Value) (q : Nat × List K) => p.1 = q.1 ∧ CT σ p.2.cells.toList q.2) (ps.map fun x => (x.1, a.eval x.2)) qs
  | [], qs, _, h => by cases h; exact .nil
  | (i, x) :: r, qs, hx, h => by
    unfold partsK at h
    split at h
    · rename_i ks q h1 h2
      cases h
      exact .cons ⟨rfl, knd_ok (hx (i, x) (List.mem_cons_self ..)) h1⟩ (partsK_ok r q (fun p hp => hx p (List.mem_cons_of_mem _ hp)) h2)
    · cases h
def seg (l : List K) (o n : Nat) : List K := (l.drop o).take n
def bsK (i : TI) (es n : Nat) (qs : List (Nat × List K)) : Option T :=
  if n = 0 ∧ 0 < es ∧ qs.length = 0 then some (.ow i.slz 0 0) else
  if n * es ≤ 100000 ∧ 0 < es ∧ 0 < n then
    match fillK (fun j => some (j * es, es)) (List.replicate n i.slz).flatten qs with
    | some l => if es = 1 ∧ kle l (List.replicate l.length (.sl 1)) = true then some (.ow [.sl 1] n n) else if n = 1 then some (.ow l 1 1) else
      if es = 1 ∧ l = List.replicate l.length (l.headD .any) then some (.ow [l.headD .any] n n) else
      if 1 < es ∧ l = (List.replicate n (l.take es)).flatten then some (.ow (l.take es) n n) else none
    | none => none
  else none
theorem fillK_length {es : Nat} : ∀ (qs : List (Nat × List K)) (l0 l : List K), fillK (fun j => some (j * es, es)) l0 qs = some l → l.length = l0.length
  | [], l0, l, h => by cases h; rfl
  | (j, ks) :: qs, l0, l, h => by
    simp only [fillK] at h
    split at h
    · rename_i hh
      rw [fillK_length qs _ _ h]
      simp
      omega
    · cases h
noncomputable def bnd (c : Ctx) (Γ : Env) (x : Option Operand) (d : Nat) : Option Nat :=
  match x with
  | none => some d
  | some x => match ty c.gt Γ x with
    | .int _ lo hi => if lo = hi ∧ 0 ≤ lo then some lo.toNat else none
    | _ => none
def sliceK (m : Bool) (l : List K) (n : Nat) : Option T :=
  match l with
  | [] => if n = 0 then some (.ss m .any 0 0) else none
  | κ :: r => if l = List.replicate n κ ∧ r.length + 1 = n then some (.ss m κ n n) else none
noncomputable def aPick (c : Ctx) (Γ : Env) (x y z : Operand) : Option T :=
  match ty c.gt Γ x with
    | .cb true => some (ty c.gt Γ y)
    | .cb false => some (ty c.gt Γ z)
    | _ => none
noncomputable def aBuild (c : Ctx) (Γ : Env) (t : TypeId) (ps : Array (Nat × Operand)) : Option T :=
  match c.t t, partsK c Γ ps.toList with
    | some i, some qs => match i.arr, i.flds with
      | some (_, es, _), _ => (fillK (fun j => some (j * es, es)) i.zero qs).map .agg
      | none, some L => (fillK (L.toArray[·]?) i.zero qs).map .agg
      | _, _ => none
    | _, _ => none
def aLoadP (i : TI) (l : List K) (off : Nat) : Option T := if i.row then (if off + i.size ≤ l.length then some (.agg (seg l off i.size)) else none) else (l[off]?).map ofK
def aLoadK (i : TI) (κ : K) (n : Nat) : Option T := if i.row then (if i.size ≤ n then some (.agg (List.replicate i.size κ)) else none) else if 1 ≤ n then some (ofK κ) else none
def aLoadR (i : TI) (ks : List K) : Option T := if i.row then (if i.size ≤ ks.length then some (.agg (ks.take i.size)) else none) else (ks[0]?).map ofK
noncomputable def aLoad (c : Ctx) (Γ : Env) (t : TypeId) (x : Operand) : Option T :=
  match c.t t with
    | some i => match ty c.gt Γ x with
      | .ptr _ l off => aLoadP i l off
      | .pk _ κ n => aLoadK i κ n
      | .pr _ ks => aLoadR i ks
      | _ => none
    | none => none
noncomputable def aField (c : Ctx) (Γ : Env) (t : TypeId) (x : Operand) (f : Nat) : Option T :=
  match c.t t, ty c.gt Γ x with
    | some i, .ptr m l off => match i.flds with
      | some L => match L[f]? with
        | some (o, sz) => if sz = 0 then none else some (.ptr m l (off + o))
        | none => none
      | none => none
    | _, _ => none
def aIdxP (i : TI) (m : Bool) (l : List K) (off : Nat) (lo hi : Int) : Option T :=
  match i.arr with
      | some (n, es, _) => if lo = hi ∧ 0 ≤ lo ∧ lo < n then some (.ptr m l (off + lo.toNat * es)) else none
      | none => none
def aIdxS (i : TI) (m : Bool) (κ : K) (a : Nat) (lo hi : Int) : Option T := if i.sl = some 1 ∧ 0 ≤ lo ∧ hi < a then some (.pk m κ 1) else none
def aIdxO (i : TI) (κs : List K) (a : Nat) (lo hi : Int) : Option T :=
  match κs with
    | [κ] => aIdxS i true κ a lo hi
    | κs => if i.sl = some κs.length ∧ 0 ≤ lo ∧ hi < a then some (.pr true κs) else none
noncomputable def aIdxA (c : Ctx) (Γ : Env) (t : TypeId) (x y : Operand) : Option T :=
  match c.t t with
    | some i => match ty c.gt Γ y with
      | .int _ lo hi => match ty c.gt Γ x with
        | .ptr m l off => aIdxP i m l off lo hi
        | .ss m κ a _ => aIdxS i m κ a lo hi
        | .ow κs a _ => aIdxO i κs a lo hi
        | _ => none
      | _ => none
    | none => none
noncomputable def aNil (c : Ctx) (Γ : Env) (x : Operand) : Option T :=
  match ty c.gt Γ x with
    | .ptr m l off => some (.ptr m l off)
    | .pk m κ n => some (.pk m κ n)
    | .pr m ks => some (.pr m ks)
    | _ => none
noncomputable def aSlice (c : Ctx) (Γ : Env) (t : TypeId) (x : Operand) (lw hg : Option Operand) : Option T :=
  match c.t t, ty c.gt Γ x with
    | some i, .ptr m l off => match i.arr with
      | some (n, es, false) => match bnd c Γ lw 0, bnd c Γ hg n with
        | some lo, some hi => if es = 1 ∧ lo ≤ hi ∧ hi ≤ n ∧ n ≤ 1000000 then sliceK m (seg l (off + lo) (hi - lo)) (hi - lo) else none
        | _, _ => none
      | _ => none
    | _, _ => none
noncomputable def aArr (c : Ctx) (Γ : Env) (t : TypeId) (x : Operand) : Option T :=
  match c.t t, ty c.gt Γ x with
    | some i, .ss m κ a _ => match i.arr with
      | some (n, 1, false) => if 0 < n ∧ n ≤ a then some (.pk m κ n) else none
      | _ => none
    | _, _ => none
noncomputable def aMake (c : Ctx) (Γ : Env) (t : TypeId) (x y : Operand) : Option T :=
  match c.t t, ty c.gt Γ x, ty c.gt Γ y with
    | some i, .int _ a b, .int _ a' b' => match i.slz with
      | [κ] => if i.sl = some 1 ∧ a = b ∧ a' = b' ∧ a = a' ∧ 0 ≤ a ∧ a ≤ 100000 then some (.ow [κ] a.toNat a.toNat) else none
      | _ => none
    | _, _, _ => none
noncomputable def aBuildS (c : Ctx) (Γ : Env) (t : TypeId) (n : Nat) (ps : Array (Nat × Operand)) : Option T :=
  match c.t t, partsK c Γ ps.toList with
    | some i, some qs => match i.sl with
      | some es => bsK i es n qs
      | none => none
    | _, _ => none
noncomputable def aIndex (c : Ctx) (Γ : Env) (t : TypeId) (x y : Operand) : Option T :=
  match c.t t with
    | some i => match ty c.gt Γ x with
      | .agg l => match ty c.gt Γ y with
        | .int _ lo hi => match i.arr with
          | some (n, es, r) => if lo = hi ∧ 0 ≤ lo ∧ lo < n then (if r then some (.agg (seg l (lo.toNat * es) es)) else (l[lo.toNat * es]?).map ofK) else none
          | none => none
        | _ => none
      | _ => none
    | none => none
def aUn (op : UnOp) (x : T) : Option T :=
  match op with
    | .neg => match x with
      | .int k a b => some (if a = b then cst k (0 - a) else full k)
      | _ => none
    | .xor => match x with
      | .int k _ _ => some (full k)
      | _ => none
    | .not => match x with
      | .cb b => some (.cb !b)
      | .bool => some .bool
      | _ => none
    | _ => none
def aConvS (i0 i : TI) (κ : K) : Option T := if i.str = true ∧ i0.sl = some 1 ∧ i0.u8 = true ∧ κ = .int .u8 then some .str else none
noncomputable def aConv (c : Ctx) (Γ : Env) (t t' : TypeId) (x : Operand) : Option T :=
  match c.t t with
    | some i0 => match c.t t' with
      | some i => match ty c.gt Γ x with
        | .int _ a b => i.int.map fun k => if klo k ≤ a ∧ b ≤ khi k then .int k a b else full k
        | .sl n => if n = 1 then aConvS i0 i (.int .u8) else none
        | .ss _ κ _ _ => aConvS i0 i κ
        | .ow κs _ _ => match κs with
          | [κ] => aConvS i0 i κ
          | _ => none
        | _ => none
      | none => none
    | none => none
def aExtract (x : T) (n : Nat) : Option T :=
  match x with
    | .t2 a b => match n with
      | 0 => some a
      | 1 => some b
      | _ => none
    | .t3 a b d => match n with
      | 0 => some a
      | 1 => some b
      | 2 => some d
      | _ => none
    | _ => none
noncomputable def absOp (c : Ctx) (Γ : Env) (o : Op) : Option T :=
  match o with
  | .move x | .assign x => some (ty c.gt Γ x)
  | .pick x y z => aPick c Γ x y z
  | .alloc t => (c.t t).map fun i => .ptr true i.zero 0
  | .box _ x => (knd (ty c.gt Γ x)).map fun l => .ptr true l 0
  | .build t ps => aBuild c Γ t ps
  | .load t x => aLoad c Γ t x
  | .fieldAddr t x f => aField c Γ t x f
  | .indexAddr t x y => aIdxA c Γ t x y
  | .nilCheck x => aNil c Γ x
  | .slice t x lw hg none => aSlice c Γ t x lw hg
  | .sliceToArrayPointer t x => aArr c Γ t x
  | .makeSlice t x y => aMake c Γ t x y
  | .buildSlice t n ps => aBuildS c Γ t n ps
  | .index t x y => aIndex c Γ t x y
  | .binOp op t x y _ => absBin c op t (ty c.gt Γ x) (ty c.gt Γ y)
  | .unOp op _ x => aUn op (ty c.gt Γ x)
  | .convert t t' x => aConv c Γ t t' x
  | .extract x n => aExtract (ty c.gt Γ x) n
  | _ => none
theorem al_add (b o j : Nat) : (⟨b, o, none⟩ : Addr).add j = ⟨b, o + j, none⟩ := Mem.addr_add b o j
section
variable {c : Ctx} {σ : S} {w : World} {a : Act} {Γ : Env}
theorem box_ok (hw : WT c.gt σ w) (t : TypeId) {v : Value} {l : List K} (h : CT σ v.cells.toList l) : Yl c σ w (Instr.box t v) (.ptr true l 0) := by
  obtain ⟨h1, h2⟩ := Go1.alloc hw v.cells t l h
  refine ⟨.pointer (some ⟨w.heap.size, 0, none⟩), _, ?_, more σ w.heap.size l, h1, h2, w.heap.size, true, rfl, by unfold more; rw [if_pos rfl], fun _ => rfl⟩
  simp [Instr.box, newVar, newRow]
theorem load_ok (hc : c.Ok) (hw : WT c.gt σ w) {t : TypeId} {i : TI} (hi : c.t t = some i) {v : Value} {m : Bool} {l : List K} {off : Nat} (hv : VT σ v (.ptr m l off)) {τ : T}
    (h : (if i.row then (if off + i.size ≤ l.length then some (T.agg (seg l off i.size)) else none) else (l[off]?).map ofK) = some τ) : Yl c σ w (Instr.loadAt t v) τ := by
  obtain ⟨b, m', rfl, hb, _⟩ := hv
  obtain ⟨C, t', f, hh, _, hC⟩ := hw.blk b m' l hb
  obtain ⟨it, z, d, hit, hsz, _, _, hu, hr⟩ := (hc.t hi).info
  split at h
  · rename_i hrow
    split at h
    · rename_i hle
      cases h
      have hs := hC.seg off i.size
      have hl : ((C.toList.drop off).take i.size).length = i.size := by have := hC.1; simp at this ⊢; omega
      have hrun := run_loadAt_mid (P := c.P) w b off t ((C.toList.drop off).take i.size) d (fun j u hj => by
        rw [cell_of_row w b _ _ _ _ hh]
        rw [List.getElem?_take] at hj
        split at hj
        · rw [List.getElem?_drop] at hj
          simpa using hj
        · cases hj) hu (hr.trans hrow) (by rw [hit]; simp [hsz, hl])
      exact ⟨_, w, hrun, .stay hw ⟨_, rfl, hs⟩⟩
    · cases h
  · rename_i hrow
    cases hl : l[off]? with
    | none => simp [hl] at h
    | some κ =>
      simp only [hl, Option.map_some, Option.some.injEq] at h
      subst h
      obtain ⟨u, hu1, hu2⟩ := hC.2 off κ hl
      have hcell : w.cell? ⟨b, off, none⟩ = some u := by rw [cell_of_row w b _ _ _ _ hh]; simpa using hu1
      refine ⟨u, w, ?_, .stay hw (ofK_ok hu2)⟩
      have hd : d.isRow = false := by rw [hr]; simpa using hrow
      cases d <;> first | (simp at hd; done) | simp [Instr.loadAt, Instr.sureAddr, loadVar, isAgg, run_underlying hu, hcell]
theorem store_ok (hc : c.Ok) (hw : WT c.gt σ w) {t : TypeId} {i : TI} (hi : c.t t = some i) {v u : Value} {l ks : List K} {off : Nat} (hv : VT σ v (.ptr true l off)) (hu : CT σ u.cells.toList ks)
    (h1 : ks.length = i.size) (h2 : seg l off ks.length = ks) (h3 : off + ks.length ≤ l.length) (hn : ∀ κ ∈ ks, nw κ = true) : ∃ w', (Instr.storeAt t v u).run c.P w = .ok () w' ∧ Go1 σ σ w w' ∧ WT c.gt σ w' := by
  obtain ⟨b, m', rfl, hb, hm⟩ := hv
  have hm' : m' = true := hm rfl
  subst hm'
  obtain ⟨C, t', f, hh, hf, hC⟩ := hw.blk b true l hb
  obtain rfl : f = (0, 0) := hf rfl
  obtain ⟨it, z, d, hit, hsz, _, _, _, _⟩ := (hc.t hi).info
  have hl := hC.1
  have hlu := hu.1
  simp only [Array.length_toList] at hl hlu
  have hst := run_storeCells_at c.P b off t' u.cells.toList 0 C w hh (by simp; omega) (hu.one hn)
  have hk : CT σ (C.toList.take off ++ u.cells.toList ++ C.toList.drop (off + u.cells.toList.length)) l := by
    have := hC.put hu h3
    have e : l.take off ++ ks ++ l.drop (off + ks.length) = l := by
      rw [← h2]
      unfold seg
      rw [List.length_take, List.length_drop, show min ks.length (l.length - off) = ks.length by omega, List.append_assoc, ← List.drop_drop, List.take_append_drop, List.take_append_drop]
    rwa [e] at this
  obtain ⟨g1, g2⟩ := Go1.set hw hb (C.toList.take off ++ u.cells.toList ++ C.toList.drop (off + u.cells.toList.length)).toArray (by simpa using hk)
  refine ⟨_, ?_, g1, g2⟩
  simp only [Nat.add_zero] at hst
  simp only [Instr.storeAt, Instr.sureAddr, Sem.run_bind, Sem.run_pure, Result.andThen_ok, storeVar, sizeOf, run_typeInfo w hit]
  rw [if_neg (by rw [hsz]; simp; omega)]
  simpa using hst
theorem build_ok (hc : c.Ok) (hw : WT c.gt σ w) {t : TypeId} {i : TI} (hi : c.t t = some i) {ps : Array (Nat × Operand)} (hx : ∀ p ∈ ps.toList, VT σ (a.eval p.2) (ty c.gt Γ p.2)) {qs : List (Nat × List K)} (hq : partsK c Γ ps.toList = some qs) {τ : T}
    (h : (match i.arr, i.flds with
      | some (_, es, _), _ => (fillK (fun j => some (j * es, es)) i.zero qs).map T.agg
      | none, some L => (fillK (L.toArray[·]?) i.zero qs).map T.agg
      | _, _ => none) = some τ) : Yl c σ w (Instr.build t (ps.map fun p => (p.1, a.eval p.2))) τ := by
  obtain ⟨it, z, d, hit, hsz, hz, hzk, hu, hr⟩ := (hc.t hi).info
  have hzk' : CT σ z.cells.toList i.zero := hzk.mono (fun b x hb => by simp [nil0] at hb)
  have hp := partsK_ok _ _ hx hq
  have hpl : (ps.map fun p => (p.1, a.eval p.2)).toList = ps.toList.map fun x => (x.1, a.eval x.2) := by simp
  split at h
  · rename_i n es r ha
    obtain ⟨e, ie, de, hua, hie, hes, _, _⟩ := (hc.t hi).arr n es r ha
    rw [Option.map_eq_some_iff] at h
    obtain ⟨l', hl', rfl⟩ := h
    obtain ⟨C', h1, h2⟩ := fill_ok _ _ _ _ _ _ hzk' hl' hp
    refine ⟨_, w, run_build w t _ C' ?_, .stay hw ⟨C', rfl, h2⟩⟩
    rw [hpl]
    simp only [Program.built, hit, hua, hz, hie, hes]
    exact h1
  · rename_i L ha hL
    obtain ⟨fs, hus, hm⟩ := (hc.t hi).flds L hL
    rw [Option.map_eq_some_iff] at h
    obtain ⟨l', hl', rfl⟩ := h
    obtain ⟨C', h1, h2⟩ := fill_ok _ _ _ _ _ _ hzk' hl' hp
    refine ⟨_, w, run_build w t _ C' ?_, .stay hw ⟨C', rfl, h2⟩⟩
    rw [hpl]
    simp only [Program.built, hit, hus, hz, hm]
    exact h1
  · cases h
theorem field_ok (hc : c.Ok) (hw : WT c.gt σ w) {t : TypeId} {i : TI} (hi : c.t t = some i) {v : Value} {m : Bool} {l : List K} {off : Nat} (hv : VT σ v (.ptr m l off)) {L : List (Nat × Nat)} (hL : i.flds = some L)
    {f o sz : Nat} (hf : L[f]? = some (o, sz)) (hs : sz ≠ 0) : Yl c σ w (Instr.fieldAt t v f) (.ptr m l (off + o)) := by
  obtain ⟨b, m', rfl, hb, hm⟩ := hv
  obtain ⟨fs, hus, hmm⟩ := (hc.t hi).flds L hL
  have key : ∀ (fl : List Field) (L : List (Nat × Nat)) (f : Nat), fl.mapM (fun f => (c.P.info? f.type).map fun i => (f.offset, i.size)) = some L → L[f]? = some (o, sz) → ∃ fd ifd, fl[f]? = some fd ∧ c.P.info? fd.type = some ifd ∧ fd.offset = o ∧ ifd.size = sz := by
    intro fl
    induction fl with
    | nil => intro L f h1 h2; simp at h1; subst h1; simp at h2
    | cons g fl ih =>
      intro L f h1 h2
      simp only [List.mapM_cons, Option.bind_eq_bind, Option.pure_def] at h1
      cases hg : c.P.info? g.type with
      | none => simp [hg] at h1
      | some ig =>
        cases hr : fl.mapM (fun f => (c.P.info? f.type).map fun i => (f.offset, i.size)) with
        | none => simp [hg, hr] at h1
        | some rest =>
          simp [hg, hr] at h1
          subst h1
          cases f with
          | zero => simp at h2; exact ⟨g, ig, rfl, hg, h2.1, h2.2⟩
          | succ f => simpa using ih rest f hr (by simpa using h2)
  obtain ⟨fd, ifd, h1, h2, h3, h4⟩ := key _ _ _ hmm hf
  refine ⟨.pointer (some ⟨b, off + o, none⟩), w, ?_, .stay hw ⟨b, m', rfl, hb, hm⟩⟩
  have h1' : fs[f]? = some fd := by simpa using h1
  simp [Instr.fieldAt, run_underlying hus, h1', Instr.sureAddr, fieldPlace, sizeOf, run_typeInfo w h2, h4, hs, h3, al_add]
theorem idx_ok (hc : c.Ok) (hw : WT c.gt σ w) {t : TypeId} {i : TI} (hi : c.t t = some i) {v : Value} {m : Bool} {l : List K} {off : Nat} (hv : VT σ v (.ptr m l off)) {n es : Nat} {r : Bool} (ha : i.arr = some (n, es, r))
    {k : IntKind} {j : Int} (h0 : 0 ≤ j) (h1 : j < n) : Yl c σ w (Instr.indexAt t v (.int k j)) (.ptr m l (off + j.toNat * es)) := by
  obtain ⟨b, m', rfl, hb, hm⟩ := hv
  obtain ⟨e, ie, de, hua, hie, hes, _, _⟩ := (hc.t hi).arr n es r ha
  refine ⟨.pointer (some ⟨b, off + j.toNat * es, none⟩), w, ?_, .stay hw ⟨b, m', rfl, hb, hm⟩⟩
  simp [Instr.indexAt, run_underlying hua, Instr.sureAddr, asIntOf, h0, h1, sizeOf, run_typeInfo w hie, hes, al_add]
theorem index_ok (hc : c.Ok) (hw : WT c.gt σ w) {t : TypeId} {i : TI} (hi : c.t t = some i) {v : Value} {l : List K} (hv : VT σ v (.agg l)) {n es : Nat} {r : Bool} (ha : i.arr = some (n, es, r))
    {k : IntKind} {j : Int} (h0 : 0 ≤ j) (h1 : j < n) {τ : T} (h : (if r then some (T.agg (seg l (j.toNat * es) es)) else (l[j.toNat * es]?).map ofK) = some τ) : Yl c σ w (Instr.index t v (.int k j)) τ := by
  obtain ⟨C, rfl, hC⟩ := hv
  obtain ⟨e, ie, de, hua, hie, hes, hue, hre⟩ := (hc.t hi).arr n es r ha
  cases r with
  | true =>
    cases h
    have hs := hC.seg (j.toNat * es) es
    refine ⟨.agg (C.extract (j.toNat * es) (j.toNat * es + es)), w, ?_, .stay hw ⟨_, rfl, ?_⟩⟩
    · cases de <;> first | (simp at hre; done) | simp [Instr.index, run_underlying hua, asIntOf, h0, h1, sizeOf, run_typeInfo w hie, hes, part, isAgg, run_underlying hue]
    · have e2 : (C.extract (j.toNat * es) (j.toNat * es + es)).toList = (C.toList.drop (j.toNat * es)).take es := by
        rw [Array.toList_extract, List.extract_eq_take_drop]
        congr 1
        omega
      rw [e2]
      exact hs
  | false =>
    simp only [Bool.false_eq_true, if_false] at h
    rw [Option.map_eq_some_iff] at h
    obtain ⟨κ, hκ, rfl⟩ := h
    obtain ⟨u, hu1, hu2⟩ := hC.2 _ κ hκ
    have hu1' : C[j.toNat * es]? = some u := by simpa using hu1
    refine ⟨u, w, ?_, .stay hw (ofK_ok hu2)⟩
    cases de <;> first | (simp at hre; done) | simp [Instr.index, run_underlying hua, asIntOf, h0, h1, sizeOf, run_typeInfo w hie, hes, part, isAgg, run_underlying hue, hu1']
theorem addr_plain {p : Addr} (h : p.spot = none) (n : Nat) : p.add n = ⟨p.block, p.off + n, none⟩ := by
  obtain ⟨b, o, s⟩ := p
  obtain rfl : s = none := h
  exact al_add b o n
theorem pk_load (hc : c.Ok) (hw : WT c.gt σ w) {t : TypeId} {i : TI} (hi : c.t t = some i) {v : Value} {m : Bool} {κ : K} {n : Nat} (hv : VT σ v (.pk m κ n)) {τ : T}
    (h : (if i.row then (if i.size ≤ n then some (T.agg (List.replicate i.size κ)) else none) else if 1 ≤ n then some (ofK κ) else none) = some τ) : Yl c σ w (Instr.loadAt t v) τ := by
  obtain ⟨p, m', l, rfl, hs, hb, hm, hk⟩ := hv
  obtain ⟨b, off, s⟩ := p
  obtain rfl : s = none := hs
  dsimp only at hb hk
  obtain ⟨C, t', f, hh, _, hC⟩ := hw.blk b m' l hb
  obtain ⟨it, z, d, hit, hsz, _, _, hu, hr⟩ := (hc.t hi).info
  have cellAt : ∀ j, j < n → ∃ u, w.cell? ⟨b, off + j, none⟩ = some u ∧ KT σ u κ ∧ C.toList[off + j]? = some u := fun j hj => by
    obtain ⟨u, hu1, hu2⟩ := hC.2 (off + j) κ (hk j hj)
    exact ⟨u, by rw [cell_of_row w b _ _ _ _ hh]; simpa using hu1, hu2, hu1⟩
  split at h
  · rename_i hrow
    split at h
    · rename_i hle
      cases h
      have hl : ((C.toList.drop off).take i.size).length = i.size := by
        rw [List.length_take, List.length_drop]
        rcases Nat.eq_zero_or_pos i.size with e | e
        · omega
        · obtain ⟨u, _, _, h3⟩ := cellAt (i.size - 1) (by omega)
          have := (List.getElem?_eq_some_iff.1 h3).1
          omega
      have hrun := run_loadAt_mid (P := c.P) w b off t ((C.toList.drop off).take i.size) d (fun j u hj => by
        rw [cell_of_row w b _ _ _ _ hh]
        rw [List.getElem?_take] at hj
        split at hj
        · rw [List.getElem?_drop] at hj
          simpa using hj
        · cases hj) hu (hr.trans hrow) (by rw [hit]; simp [hsz, hl])
      refine ⟨_, w, hrun, .stay hw ⟨_, rfl, by simp [hl], fun j κ' hj => ?_⟩⟩
      rw [List.getElem?_replicate] at hj
      split at hj
      · rename_i hjl
        cases hj
        obtain ⟨u, _, h2, h3⟩ := cellAt j (by omega)
        refine ⟨u, ?_, h2⟩
        show ((C.toList.drop off).take i.size)[j]? = some u
        rw [List.getElem?_take, if_pos hjl, List.getElem?_drop]
        exact h3
      · cases hj
    · cases h
  · rename_i hrow
    split at h
    · rename_i hn
      cases h
      obtain ⟨u, h1, h2, _⟩ := cellAt 0 (by omega)
      refine ⟨u, w, ?_, .stay hw (ofK_ok h2)⟩
      have hd : d.isRow = false := by rw [hr]; simpa using hrow
      rw [Nat.add_zero] at h1
      cases d <;> first | (simp at hd; done) | simp [Instr.loadAt, Instr.sureAddr, loadVar, isAgg, run_underlying hu, h1]
    · cases h
theorem pr_load (hc : c.Ok) (hw : WT c.gt σ w) {t : TypeId} {i : TI} (hi : c.t t = some i) {v : Value} {m : Bool} {ks : List K} (hv : VT σ v (.pr m ks)) {τ : T}
    (h : (if i.row then (if i.size ≤ ks.length then some (T.agg (ks.take i.size)) else none) else (ks[0]?).map ofK) = some τ) : Yl c σ w (Instr.loadAt t v) τ := by
  obtain ⟨p, m', l, rfl, hs, hb, hm, hk⟩ := hv
  obtain ⟨b, off, s⟩ := p
  obtain rfl : s = none := hs
  dsimp only at hb hk
  obtain ⟨C, t', f, hh, _, hC⟩ := hw.blk b m' l hb
  obtain ⟨it, z, d, hit, hsz, _, _, hu, hr⟩ := (hc.t hi).info
  have cellAt : ∀ j κ, ks[j]? = some κ → ∃ u, w.cell? ⟨b, off + j, none⟩ = some u ∧ KT σ u κ ∧ C.toList[off + j]? = some u := fun j κ hj => by
    obtain ⟨u, hu1, hu2⟩ := hC.2 (off + j) κ (hk j κ hj)
    exact ⟨u, by rw [cell_of_row w b _ _ _ _ hh]; simpa using hu1, hu2, hu1⟩
  split at h
  · rename_i hrow
    split at h
    · rename_i hle
      cases h
      have hl : ((C.toList.drop off).take i.size).length = i.size := by
        rw [List.length_take, List.length_drop]
        rcases Nat.eq_zero_or_pos i.size with e | e
        · omega
        · obtain ⟨u, _, _, h3⟩ := cellAt (i.size - 1) _ (List.getElem?_eq_getElem (show i.size - 1 < ks.length by omega))
          have := (List.getElem?_eq_some_iff.1 h3).1
          omega
      have hrun := run_loadAt_mid (P := c.P) w b off t ((C.toList.drop off).take i.size) d (fun j u hj => by
        rw [cell_of_row w b _ _ _ _ hh]
        rw [List.getElem?_take] at hj
        split at hj
        · rw [List.getElem?_drop] at hj
          simpa using hj
        · cases hj) hu (hr.trans hrow) (by rw [hit]; simp [hsz, hl])
      refine ⟨_, w, hrun, .stay hw ⟨_, rfl, by simp [hl]; omega, fun j κ' hj => ?_⟩⟩
      rw [List.getElem?_take] at hj
      split at hj
      · rename_i hjl
        obtain ⟨u, _, h2, h3⟩ := cellAt j κ' hj
        refine ⟨u, ?_, h2⟩
        show ((C.toList.drop off).take i.size)[j]? = some u
        rw [List.getElem?_take, if_pos hjl, List.getElem?_drop]
        exact h3
      · cases hj
    · cases h
  · rename_i hrow
    cases hk0 : ks[0]? with
    | none => simp [hk0] at h
    | some κ =>
      simp only [hk0, Option.map_some, Option.some.injEq] at h
      subst h
      obtain ⟨u, h1, h2, _⟩ := cellAt 0 κ hk0
      refine ⟨u, w, ?_, .stay hw (ofK_ok h2)⟩
      have hd : d.isRow = false := by rw [hr]; simpa using hrow
      rw [Nat.add_zero] at h1
      cases d <;> first | (simp at hd; done) | simp [Instr.loadAt, Instr.sureAddr, loadVar, isAgg, run_underlying hu, h1]
theorem owidx_ok (hc : c.Ok) (hw : WT c.gt σ w) {t : TypeId} {i : TI} (hi : c.t t = some i) {κs : List K} (hsl : i.sl = some κs.length) {v : Value} {lo hi' : Nat} (hv : OW σ v κs lo hi') {k : IntKind} {j : Int} (h0 : 0 ≤ j) (h1 : j < lo) :
    Yl c σ w (Instr.indexAt t v (.int k j)) (.pr true κs) := by
  obtain ⟨e, ie, z, hu, hie, hes, _⟩ := (hc.t hi).sl _ hsl
  rcases hv with ⟨rfl, rfl⟩ | ⟨b, len, cap, l, rfl, l1, l2, l3, l4, hb, l5, l6⟩
  · omega
  · refine ⟨.pointer (some ((⟨b, 0, none⟩ : Addr).add (j.toNat * κs.length))), w, ?_, .stay hw ⟨_, true, l, rfl, by rw [al_add], by rw [al_add]; exact hb, fun _ => rfl, fun i' κ hκ => ?_⟩⟩
    · have h2 : j < (len : Int) := by omega
      simp [Instr.indexAt, run_underlying hu, asIntOf, h0, h2, sizeOf, run_typeInfo w hie, hes]
    · rw [al_add, Nat.zero_add]
      exact l6 j.toNat i' κ (by omega) hκ
theorem pk_store (hc : c.Ok) (hw : WT c.gt σ w) {t : TypeId} {i : TI} (hi : c.t t = some i) {v u : Value} {κ : K} {n : Nat} (hv : VT σ v (.pk true κ n)) (hu : CT σ u.cells.toList [κ]) (h1 : i.size = 1) (hn : 1 ≤ n) (hnw : ∀ x ∈ [κ], nw x = true) :
    ∃ w', (Instr.storeAt t v u).run c.P w = .ok () w' ∧ Go1 σ σ w w' ∧ WT c.gt σ w' := by
  obtain ⟨p, m', l, rfl, hs, hb, hm, hk⟩ := hv
  obtain ⟨b, off, s⟩ := p
  obtain rfl : s = none := hs
  have hm' : m' = true := hm rfl
  subst hm'
  have hk0 := hk 0 hn
  rw [Nat.add_zero] at hk0
  have hlt := (List.getElem?_eq_some_iff.1 hk0).1
  have hseg : seg l off 1 = [κ] := by
    unfold seg
    dsimp only at hk0 hlt
    rw [List.drop_eq_getElem_cons hlt]
    rw [List.getElem?_eq_getElem hlt] at hk0
    cases hk0
    rfl
  exact store_ok hc hw hi (v := .pointer (some ⟨b, off, none⟩)) (l := l) (ks := [κ]) (off := off) ⟨b, true, rfl, hb, fun _ => rfl⟩ hu (by simp [h1]) hseg (by dsimp only at hlt; simp; omega) hnw
def lenT : T → Option T
  | .sl _ => some (.int .i64 0 1000000)
  | .ss _ _ lo hi => if hi ≤ 1000000000 then some (.int .i64 lo hi) else none
  | .ow _ lo hi => some (.int .i64 lo hi)
  | .nl => some (.int .i64 0 0)
  | _ => none
theorem len_ok (hc : c.Ok) (hw : WT c.gt σ w) {t ty : TypeId} {i : TI} (hi : c.t t = some i) (hsl : i.sl.isSome = true) {v : Value} {τ ρ : T} (hv : VT σ v τ) (h : lenT τ = some ρ) : Yl c σ w (Builtin.len_ #[t] ty #[v]) ρ := by
  obtain ⟨n, hn⟩ := Option.isSome_iff_exists.1 hsl
  obtain ⟨e, _, _, hu, _⟩ := (hc.t hi).sl n hn
  have key : ∀ a k z, v = .slice a k z → VT σ (.int .i64 (k : Int)) ρ → Yl c σ w (Builtin.len_ #[t] ty #[v]) ρ := fun a k z e hr => by
    subst e
    exact ⟨goInt k, w, by simp [Builtin.len_, run_underlying hu], .stay hw hr⟩
  cases τ <;> simp only [lenT] at h
  case sl =>
    cases h
    obtain ⟨a, k, z, e, h1, h2, h3, _⟩ := hv
    exact key a k z e ⟨_, rfl, by omega, by omega⟩
  case ss m κ lo hi' =>
    split at h
    · cases h
      obtain ⟨a, k, z, e, h1, h2, _⟩ := hv
      exact key a k z e ⟨_, rfl, by omega, by omega⟩
    · cases h
  case ow κs lo hi' =>
    cases h
    rcases hv with ⟨e, h0⟩ | ⟨b, k, z, l, e, h1, h2, _⟩
    · exact key none 0 0 e ⟨_, rfl, by omega, by omega⟩
    · exact key _ k z e ⟨_, rfl, by omega, by omega⟩
  case nl => cases h; exact key none 0 0 hv ⟨_, rfl, by omega, by omega⟩
  all_goals cases h
theorem slidx_ok (hc : c.Ok) (hw : WT c.gt σ w) {t : TypeId} {i : TI} (hi : c.t t = some i) (hsl : i.sl = some 1) {v : Value} {m : Bool} {κ : K} {lo hi' : Nat} (hv : SS σ v m κ lo hi') {k : IntKind} {j : Int} (h0 : 0 ≤ j) (h1 : j < lo) :
    Yl c σ w (Instr.indexAt t v (.int k j)) (.pk m κ 1) := by
  obtain ⟨a, len, cap, rfl, l1, l2, l3, l4, l5, l6⟩ := hv
  obtain ⟨e, ie, z, hu, hie, hes, _⟩ := (hc.t hi).sl 1 hsl
  cases a with
  | none => have := l5 rfl; omega
  | some p =>
    obtain ⟨hs, m', l, hb, hm, hk⟩ := l6 p rfl
    refine ⟨.pointer (some (p.add j.toNat)), w, ?_, .stay hw ⟨_, m', l, rfl, by rw [addr_plain hs], ?_, hm, fun i' hi' => ?_⟩⟩
    · have h2 : j < (len : Int) := by omega
      simp [Instr.indexAt, run_underlying hu, asIntOf, h0, h2, sizeOf, run_typeInfo w hie, hes]
    · rw [addr_plain hs]; exact hb
    · rw [addr_plain hs]
      have := hk j.toNat (by omega)
      obtain rfl : i' = 0 := by omega
      simpa using this
theorem OW.ss {v : Value} {κ : K} {lo hi : Nat} (h : OW σ v [κ] lo hi) : SS σ v true κ lo hi := by
  rcases h with ⟨rfl, rfl⟩ | ⟨b, len, cap, l, rfl, h1, h2, h3, h4, hb, h5, h6⟩
  · exact ⟨none, 0, 0, rfl, Nat.le_refl _, Nat.zero_le _, Nat.le_refl _, Nat.zero_le _, fun _ => rfl, fun _ h => nomatch h⟩
  · refine ⟨_, len, cap, rfl, h1, h2, h3, h4, (fun h => nomatch h), fun p hp => ?_⟩
    cases hp
    exact ⟨rfl, true, l, hb, fun _ => rfl, fun i hi => by simpa using h6 i 0 κ (by omega) rfl⟩
theorem arrslice_ok (hc : c.Ok) (hw : WT c.gt σ w) {t : TypeId} {i : TI} (hi : c.t t = some i) {n : Nat} (ha : i.arr = some (n, 1, false)) {v : Value} {m : Bool} {l : List K} {off : Nat} (hv : VT σ v (.ptr m l off))
    (lw hg : Option Value) {lo h : Nat} (hlo : (lw = none ∧ lo = 0) ∨ ∃ k, lw = some (.int k lo)) (hhi : (hg = none ∧ h = n) ∨ ∃ k, hg = some (.int k h)) (h1 : lo ≤ h) (h2 : h ≤ n) (h3 : n ≤ 1000000) {τ : T}
    (hk : sliceK m (seg l (off + lo) (h - lo)) (h - lo) = some τ) : Yl c σ w (Instr.sliceAt t v lw hg none) τ := by
  obtain ⟨b, m', rfl, hb, hm⟩ := hv
  obtain ⟨e, ie, de, hu, hie, hes, _, _⟩ := (hc.t hi).arr n 1 false ha
  have hbl : (Instr.sliceBounds false n n lw hg none).run c.P w = .ok (lo, h, n) w := by
    rcases hlo with ⟨rfl, rfl⟩ | ⟨k, rfl⟩ <;> rcases hhi with ⟨rfl, rfl⟩ | ⟨k', rfl⟩ <;>
      simp [Instr.sliceBounds, Instr.sliceBound, asIntOf, h1, h2]
  have hrun : (Instr.sliceAt t (.pointer (some ⟨b, off, none⟩)) lw hg none).run c.P w = .ok (.slice (some (if n = lo then ⟨b, off, none⟩ else ⟨b, off + lo, none⟩)) (h - lo) (n - lo)) w := by
    simp [Instr.sliceAt, run_underlying hu, Instr.sureAddr, hbl, sizeOf, run_typeInfo w hie, hes, al_add]
  refine ⟨_, w, hrun, .stay hw ?_⟩
  have key : ∀ κ, (∀ j, j < h - lo → l[off + lo + j]? = some κ) → VT σ (.slice (some (if n = lo then ⟨b, off, none⟩ else ⟨b, off + lo, none⟩)) (h - lo) (n - lo)) (.ss m κ (h - lo) (h - lo)) := by
    intro κ hκ
    refine ⟨_, _, _, rfl, Nat.le_refl _, Nat.le_refl _, by omega, by unfold maxLen; omega, (fun h => nomatch h), fun p hp => ?_⟩
    cases hp
    split
    · exact ⟨rfl, m', l, hb, hm, fun j hj => by omega⟩
    · exact ⟨rfl, m', l, hb, hm, hκ⟩
  unfold sliceK at hk
  split at hk
  · split at hk
    · rename_i hz
      cases hk
      have := key .any (fun j hj => by omega)
      rwa [hz] at this ⊢
    · cases hk
  · rename_i κ r hseg
    split at hk
    · rename_i hz
      cases hk
      refine key κ (fun j hj => ?_)
      have h4 : (seg l (off + lo) (h - lo))[j]? = some κ := by
        rw [hz.1, List.getElem?_replicate, if_pos hj]
      unfold seg at h4
      rw [List.getElem?_take, if_pos hj, List.getElem?_drop] at h4
      exact h4
    · cases hk
theorem toarr_ok (hc : c.Ok) (hw : WT c.gt σ w) {t : TypeId} {i : TI} (hi : c.t t = some i) {n : Nat} (ha : i.arr = some (n, 1, false)) {v : Value} {m : Bool} {κ : K} {lo hi' : Nat} (hv : SS σ v m κ lo hi') (h0 : 0 < n) (h1 : n ≤ lo) :
    Yl c σ w (Instr.arrayAt t v) (.pk m κ n) := by
  obtain ⟨a, len, cap, rfl, l1, l2, l3, l4, l5, l6⟩ := hv
  obtain ⟨e, ie, de, hu, _⟩ := (hc.t hi).arr n 1 false ha
  cases a with
  | none => have := l5 rfl; omega
  | some p =>
    obtain ⟨hs, m', l, hb, hm, hk⟩ := l6 p rfl
    refine ⟨.pointer (some p), w, ?_, .stay hw ⟨p, m', l, rfl, hs, hb, hm, fun j hj => hk j (by omega)⟩⟩
    simp [Instr.arrayAt, run_underlying hu, Nat.not_lt.2 (show n ≤ len by omega)]
theorem make_ok (hc : c.Ok) (hw : WT c.gt σ w) {t : TypeId} {i : TI} (hi : c.t t = some i) (hsl : i.sl = some 1) {κ : K} (hz : i.slz = [κ]) {k k' : IntKind} {n : Int} (h0 : 0 ≤ n) (h1 : n ≤ 100000) :
    Yl c σ w (Instr.makeSlice t (.int k n) (.int k' n)) (.ow [κ] n.toNat n.toNat) := by
  obtain ⟨e, ie, z, hu, hie, hes, hiz, hzk, _, hby⟩ := (hc.t hi).sl 1 hsl
  obtain ⟨N, rfl⟩ := Int.eq_ofNat_of_zero_le h0
  rw [hz] at hzk
  obtain ⟨u, hu1, hu2⟩ := hzk.2 0 κ rfl
  have hzs : z.cells.size = 1 := by have := hzk.1; simpa using this
  have hbytes : (ie.bytes : Int) * (N : Int) ≤ 281474976710656 := by
    have : ie.bytes * N ≤ 1024 * 100000 := Nat.mul_le_mul hby (by omega)
    have h3 : ((ie.bytes * N : Nat) : Int) ≤ 102400000 := by omega
    rw [Int.natCast_mul] at h3
    omega
  have hrun := run_makeSlice (P := c.P) w t e ie z hu hie hiz k k' (N : Int) (N : Int) h0 (Int.le_refl _) (by rw [hes]; simp; omega) hbytes (by omega)
  rw [hes, Nat.mul_one, Int.toNat_natCast] at hrun
  have hu2' : KT σ u κ := hu2.mono (fun b x hb => by simp [nil0] at hb)
  have hC : CT σ (madeCells z.cells N).toList (List.replicate N κ) := by
    refine ⟨by simp [madeCells], fun j κ' hj => ?_⟩
    rw [List.getElem?_replicate] at hj
    split at hj
    · rename_i hjl
      cases hj
      refine ⟨u, ?_, hu2'⟩
      have : z.cells[0]? = some u := by simpa using hu1
      obtain ⟨_, h3⟩ := Array.getElem?_eq_some_iff.1 this
      simp [madeCells, hjl, hzs, Nat.mod_one, h3]
    · cases hj
  obtain ⟨g1, g2⟩ := Go1.alloc hw (madeCells z.cells N) e (List.replicate N κ) hC
  refine ⟨_, _, hrun, _, g1, g2, .inr ⟨w.heap.size, N, N, List.replicate N κ, rfl, by simp, by simp, Nat.le_refl _, by unfold maxLen; omega, by unfold more; rw [if_pos rfl], by simp, fun j j' κ' hj hj' => ?_⟩⟩
  match j' with
  | 0 => simp at hj'; subst hj'; simp [List.getElem?_replicate, hj]
  | j' + 1 => simp at hj'
theorem flat_get {κs : List K} : ∀ (n i j : Nat) (κ : K), i < n → κs[j]? = some κ → (List.replicate n κs).flatten[i * κs.length + j]? = some κ
  | 0, i, j, κ, h, _ => by omega
  | n + 1, i, j, κ, h, hj => by
    have hjl := (List.getElem?_eq_some_iff.1 hj).1
    rw [List.replicate_succ, List.flatten_cons]
    cases i with
    | zero => rw [Nat.zero_mul, Nat.zero_add, List.getElem?_append_left hjl]; exact hj
    | succ i =>
      rw [List.getElem?_append_right (by rw [Nat.succ_mul]; omega), show (i + 1) * κs.length + j - κs.length = i * κs.length + j by rw [Nat.succ_mul]; omega]
      exact flat_get n i j κ (by omega) hj
theorem buildS_ok (hc : c.Ok) (hw : WT c.gt σ w) {t : TypeId} {i : TI} (hi : c.t t = some i) {es : Nat} (hsl : i.sl = some es) {n : Nat} {ps : Array (Nat × Operand)} (hx : ∀ p ∈ ps.toList, VT σ (a.eval p.2) (ty c.gt Γ p.2)) {qs : List (Nat × List K)}
    (hq : partsK c Γ ps.toList = some qs) (hn : n * es ≤ 100000) (he : 0 < es) (hn0 : 0 < n) {l0 l : List K} (hl : fillK (fun j => some (j * es, es)) (List.replicate n i.slz).flatten qs = some l0) (hle : ∀ C : List Value, CT σ C l0 → CT σ C l) {κs : List K} (hκ : l.length = n * κs.length) (hκ0 : κs.length = es)
    (hall : ∀ (i j : Nat) (κ : K), i < n → κs[j]? = some κ → l[i * κs.length + j]? = some κ) : Yl c σ w (Instr.buildSlice t n (ps.map fun p => (p.1, a.eval p.2))) (.ow κs n n) := by
  obtain ⟨e, ie, z, hu, hie, hes, hiz, hzk, hzl, hby⟩ := (hc.t hi).sl es hsl
  have hzk' : CT σ z.cells.toList i.slz := hzk.mono (fun b x hb => by simp [nil0] at hb)
  have hzs : z.cells.size = es := by have := hzk'.1; simp at this; omega
  have hC0 : CT σ ((Array.range (n * es)).map (z.cells[· % z.cells.size]!)).toList (List.replicate n i.slz).flatten := by
    refine ⟨by simp [hzl], fun j κ hj => ?_⟩
    have hjl : j < n * es := by
      have := (List.getElem?_eq_some_iff.1 hj).1
      simpa [hzl] using this
    have hq : j / es < n := (Nat.div_lt_iff_lt_mul he).2 hjl
    have hr : j % es < es := Nat.mod_lt _ he
    have hsome : i.slz[j % es]? = some (i.slz[j % es]'(by omega)) := List.getElem?_eq_getElem _
    have h2 := flat_get (κs := i.slz) n (j / es) (j % es) _ hq hsome
    have e3 : j / es * i.slz.length + j % es = j := by rw [hzl]; exact Nat.div_add_mod' ..
    rw [e3] at h2
    rw [h2] at hj
    cases hj
    obtain ⟨u, hu1, hu2⟩ := hzk'.2 _ _ hsome
    refine ⟨u, ?_, hu2⟩
    have hu1' : z.cells[j % es]? = some u := by simpa using hu1
    obtain ⟨hlt3, h3⟩ := Array.getElem?_eq_some_iff.1 hu1'
    simp [hjl, hzs]
    rw [getElem!_pos z.cells (j % es) hlt3]
    exact h3
  have hp := partsK_ok _ _ hx hq
  have hpl : (ps.map fun p => (p.1, a.eval p.2)).toList = ps.toList.map fun x => (x.1, a.eval x.2) := by simp
  obtain ⟨C', f1, f2'⟩ := fill_ok _ _ _ _ _ _ hC0 hl hp
  have f2 := hle _ f2'
  obtain ⟨g1, g2⟩ := Go1.alloc hw C' e l f2
  have hn2 : n ≤ n * es := Nat.le_mul_of_pos_right n he
  refine ⟨.slice (some ⟨w.heap.size, 0, none⟩) n n, _, ?_, _, g1, g2, .inr ⟨w.heap.size, n, n, l, rfl, Nat.le_refl _, Nat.le_refl _, Nat.le_refl _, by unfold maxLen; omega, by unfold more; rw [if_pos rfl], hκ, hall⟩⟩
  have hlim : ¬ (2 ^ 24 < n * es) := by omega
  have hne : ¬ (n * es = 0) := by
    have := Nat.mul_pos hn0 he
    omega
  unfold Instr.buildSlice
  simp only [Sem.run_bind, run_underlying hu, Result.andThen_ok, sizeOf, run_typeInfo w hie, Sem.run_pure, hes, if_neg hlim, if_neg hne, zeroValue, hiz, hpl, f1, newRow, run_newObj_alloc, gt_iff_lt]
theorem partsK_nil {c : Ctx} {Γ : Env} : ∀ {l : List (Nat × Operand)}, partsK c Γ l = some [] → l = []
  | [], _ => rfl
  | (i, x) :: r, h => by
    unfold partsK at h
    split at h <;> cases h
theorem buildS0_ok (hc : c.Ok) (hw : WT c.gt σ w) {t : TypeId} {i : TI} (hi : c.t t = some i) {es : Nat} (hsl : i.sl = some es) (f : Nat × Operand → Nat × Value) {ps : Array (Nat × Operand)} (hps : ps.toList = []) :
    Yl c σ w (Instr.buildSlice t 0 (ps.map f)) (.ow i.slz 0 0) := by
  obtain ⟨e, ie, z, hu, hie, hes, hiz, hzk, hzl, hby⟩ := (hc.t hi).sl es hsl
  have hps' : ps = #[] := by rw [← Array.toArray_toList (xs := ps), hps]
  subst hps'
  obtain ⟨g1, g2⟩ := Go1.alloc hw #[] e [] ⟨rfl, fun i κ hi => by simp at hi⟩
  refine ⟨.slice (some ⟨w.heap.size, 0, none⟩) 0 0, _, ?_, _, g1, g2, .inr ⟨w.heap.size, 0, 0, [], rfl, Nat.le_refl _, Nat.le_refl _, Nat.le_refl _, by unfold maxLen; omega, by unfold more; rw [if_pos rfl], by simp, fun i j κ hi => by omega⟩⟩
  unfold Instr.buildSlice
  simp [Sem.run_bind, run_underlying hu, Result.andThen_ok, sizeOf, run_typeInfo w hie, Instr.fill, newRow]
  rw [show Array.range 0 = #[] from by simp [Array.range], Array.map_empty]
theorem bs_ok (hc : c.Ok) (hw : WT c.gt σ w) {t : TypeId} {i : TI} (hi : c.t t = some i) {es : Nat} (hsl : i.sl = some es) {n : Nat} {ps : Array (Nat × Operand)} (hx : ∀ p ∈ ps.toList, VT σ (a.eval p.2) (ty c.gt Γ p.2)) {qs : List (Nat × List K)}
    (hq : partsK c Γ ps.toList = some qs) {τ : T} (h : bsK i es n qs = some τ) : Yl c σ w (Instr.buildSlice t n (ps.map fun p => (p.1, a.eval p.2))) τ := by
  unfold bsK at h
  split at h
  · rename_i hh
    obtain ⟨rfl, _, h3⟩ := hh
    cases h
    have hq0 : qs = [] := List.eq_nil_of_length_eq_zero h3
    subst hq0
    exact buildS0_ok hc hw hi hsl _ (partsK_nil hq)
  split at h
  · rename_i hh
    obtain ⟨h1, h2, h3⟩ := hh
    split at h
    · rename_i l hl
      obtain ⟨_, _, _, _, _, _, _, _, hz, _⟩ := (hc.t hi).sl es hsl
      have hll : l.length = n * es := by
        rw [fillK_length _ _ _ hl]
        simp [hz]
      split at h
      · rename_i he
        obtain ⟨he1, he2⟩ := he
        cases h
        rw [he1, Nat.mul_one] at hll
        refine buildS_ok hc hw hi hsl hx hq h1 h2 h3 hl (l := List.replicate l.length (.sl 1)) (fun _ h => kle_ok he2 h) (κs := [.sl 1]) (by rw [List.length_replicate, hll]; simp) (by rw [he1]; rfl) (fun i' j κ' hi' hj => ?_)
        cases j with
        | zero =>
          cases hj
          rw [List.length_singleton, Nat.mul_one, Nat.add_zero, List.getElem?_replicate, if_pos (by rw [hll]; exact hi')]
        | succ j => simp at hj
      · split at h
        · rename_i hn1
          cases h
          rw [hn1, Nat.one_mul] at hll
          have := buildS_ok (a := a) hc hw hi hsl hx hq h1 h2 h3 hl (fun _ h => h) (κs := l) (by rw [hn1, Nat.one_mul]) hll (fun i' j κ hi' hj => by
            have : i' = 0 := by omega
            rw [this, Nat.zero_mul, Nat.zero_add]
            exact hj)
          rw [hn1] at this ⊢
          exact this
        · split at h
          · rename_i he
            obtain ⟨he1, he2⟩ := he
            cases h
            rw [he1, Nat.mul_one] at hll
            refine buildS_ok hc hw hi hsl hx hq h1 h2 h3 hl (fun _ h => h) (κs := [l.headD .any]) (by rw [hll]; simp) (by rw [he1]; rfl) (fun i' j κ' hi' hj => ?_)
            cases j with
            | zero =>
              cases hj
              rw [List.length_singleton, Nat.mul_one, Nat.add_zero, he2, List.getElem?_replicate, if_pos (by rw [hll]; exact hi')]
              rw [← he2]
            | succ j => simp at hj
          · split at h
            · rename_i he
              obtain ⟨he1, he2⟩ := he
              cases h
              have hle : es ≤ l.length := by rw [hll]; exact Nat.le_mul_of_pos_left es h3
              have htl : (l.take es).length = es := by rw [List.length_take]; omega
              refine buildS_ok hc hw hi hsl hx hq h1 h2 h3 hl (fun _ h => h) (κs := l.take es) (by rw [hll, htl]) htl (fun i' j κ' hi' hj => ?_)
              have := flat_get n i' j κ' hi' hj
              rwa [← he2] at this
            · cases h
    · cases h
  · cases h
theorem copy_ok (hc : c.Ok) (hw : WT c.gt σ w) {t t' ty : TypeId} {i : TI} (hi : c.t t = some i) (hsl : i.sl = some 1) {v x : Value} {lo hi' : Nat} (hv : SS σ v true (.int .u8) lo hi') (hx : SL σ x 1) (hb : hi' ≤ 1000000) :
    Yl c σ w (Builtin.copy_ #[t, t'] ty #[v, x]) (.int .i64 0 1000000) := by
  obtain ⟨q, len, cap, rfl, l1, l2, l3, l4, l5, l6⟩ := hv
  obtain ⟨q2, len2, cap2, rfl, m1, m2, _, m3, m4⟩ := hx
  obtain ⟨e, ie, z, hu, hie, hes, _⟩ := (hc.t hi).sl 1 hsl
  have hs1 : (c.P.info? e).map (·.size) = some 1 := by rw [hie]; simp [hes]
  by_cases hm : Nat.min len2 len = 0
  · exact ⟨goInt 0, w, run_copy_none w t t' ty e q q2 len cap len2 cap2 hu hs1 hm, .stay hw ⟨0, rfl, by omega, by omega⟩⟩
  · have hl0 : 0 < len := by rcases Nat.eq_zero_or_pos len with h | h; · rw [h] at hm; simp at hm
                             · exact h
    have hl2 : 0 < len2 := by rcases Nat.eq_zero_or_pos len2 with h | h; · rw [h] at hm; simp at hm
                              · exact h
    cases q with
    | none => have := l5 rfl; omega
    | some p =>
      cases q2 with
      | none => have := m3 rfl; omega
      | some p2 =>
        obtain ⟨hs, m', l, hbl, hmm, hk⟩ := l6 p rfl
        obtain ⟨hs2, m2', l', hb2, hk2⟩ := m4 p2 rfl
        obtain ⟨g, o, s0⟩ := p
        obtain ⟨g2, o2, s2⟩ := p2
        obtain rfl : s0 = none := hs
        obtain rfl : s2 = none := hs2
        obtain rfl : m' = true := hmm rfl
        dsimp only at hbl hb2 hk hk2
        obtain ⟨C, tt, f, hh, hf, hC⟩ := hw.blk g true l hbl
        obtain rfl : f = (0, 0) := hf rfl
        obtain ⟨D, tt2, f2, hh2, _, hD⟩ := hw.blk g2 m2' l' hb2
        obtain ⟨n, hn⟩ : ∃ n, n = Nat.min len2 len := ⟨_, rfl⟩
        have hn1 : n ≤ len2 := by rw [hn]; exact Nat.min_le_left ..
        have hn2 : n ≤ len := by rw [hn]; exact Nat.min_le_right ..
        have hDl : o2 + n ≤ D.toList.length := by
          have h7 := hk2 (len2 - 1) (by omega)
          have := (List.getElem?_eq_some_iff.1 h7).1
          have := hD.1
          omega
        have hCl : o + n ≤ C.toList.length := by
          have h7 := hk (len - 1) (by omega)
          have := (List.getElem?_eq_some_iff.1 h7).1
          have := hC.1
          omega
        have hcl : ((D.toList.drop o2).take n).length = n := by rw [List.length_take, List.length_drop]; omega
        have hcs : CT σ ((D.toList.drop o2).take n) (List.replicate n (.int .u8)) := by
          refine ⟨by simp [hcl], fun j κ hj => ?_⟩
          rw [List.getElem?_replicate] at hj
          split at hj
          · rename_i hjn
            cases hj
            obtain ⟨u, hu1, hu2⟩ := hD.2 (o2 + j) (.int .u8) (hk2 j (by omega))
            exact ⟨u, by rw [List.getElem?_take, if_pos hjn, List.getElem?_drop]; exact hu1, hu2⟩
          · cases hj
        have hrun := run_copy_row (P := c.P) w t t' ty e g o len cap ⟨g2, o2, none⟩ len2 cap2 C tt ((D.toList.drop o2).take n) hu hs1 hh (by rw [hcl, hn]) (fun j u hj => by
          rw [al_add, cell_of_row w g2 _ _ _ _ hh2]
          rw [List.getElem?_take] at hj
          split at hj
          · rw [List.getElem?_drop] at hj; simpa using hj
          · cases hj) (by rw [hcl]; simpa using hCl) (fun u hu' => hcs.one (fun κ hκ => by rw [List.eq_of_mem_replicate hκ]; rfl) u hu')
        have hk' : CT σ (C.toList.take o ++ (D.toList.drop o2).take n ++ C.toList.drop (o + ((D.toList.drop o2).take n).length)) l := by
          have hCl' := hC.1
          have h8 := hC.put hcs (o := o) (by simp; omega)
          have e8 : l.take o ++ List.replicate n (.int .u8) ++ l.drop (o + (List.replicate n (K.int .u8)).length) = l := by
            apply List.ext_getElem?
            intro j
            rw [List.append_assoc, List.getElem?_append, List.getElem?_append]
            simp only [List.length_take, List.length_replicate, List.getElem?_take, List.getElem?_replicate, List.getElem?_drop]
            rw [show min o l.length = o by omega]
            by_cases h9 : j < o
            · rw [if_pos h9, if_pos h9]
            · rw [if_neg h9]
              by_cases h10 : j - o < n
              · rw [if_pos h10, if_pos h10, ← hk (j - o) (by omega), show o + (j - o) = j by omega]
              · rw [if_neg h10, show o + n + (j - o - n) = j by omega]
          rwa [e8] at h8
        obtain ⟨g1, g2'⟩ := Go1.set hw hbl (C.toList.take o ++ (D.toList.drop o2).take n ++ C.toList.drop (o + ((D.toList.drop o2).take n).length)).toArray (by simpa using hk')
        exact ⟨_, _, hrun, σ, g1, g2', _, rfl, by omega, by rw [hcl]; omega⟩
theorem bys_of : ∀ {C : List Value}, (∀ v ∈ C, KT σ v (.int .u8)) → ∃ l : List UInt8, C = Mem.bys l
  | [], _ => ⟨[], rfl⟩
  | v :: C, h => by
    obtain ⟨l, rfl⟩ := bys_of (C := C) (fun u hu => h u (List.mem_cons_of_mem _ hu))
    obtain ⟨n, rfl, h1, h2⟩ := h v (List.mem_cons_self ..)
    simp only [klo, khi] at h1 h2
    refine ⟨UInt8.ofNat n.toNat :: l, ?_⟩
    show _ = (Value.int .u8 ((UInt8.ofNat n.toNat).toNat : Int)) :: Mem.bys l
    congr 2
    simp
    omega
theorem SS.rd (hw : WT c.gt σ w) {x : Value} {m : Bool} {lo hi : Nat} (hx : SS σ x m (.int .u8) lo hi) : ∃ q cap, ∃ l : List UInt8, x = .slice q l.length cap ∧ Mem.Rd w 1 x l.length (Mem.bys l) ∧ lo ≤ l.length ∧ l.length ≤ hi := by
  obtain ⟨q, len, cap, rfl, l1, l2, l3, l4, l5, l6⟩ := hx
  cases q with
  | none =>
    obtain rfl := l5 rfl
    obtain rfl : len = 0 := by omega
    exact ⟨none, 0, [], rfl, Mem.Rd.nil w 1, l1, l2⟩
  | some p =>
    obtain ⟨hs, m', l, hb, _, hk⟩ := l6 p rfl
    obtain ⟨b, o, s⟩ := p
    obtain rfl : s = none := hs
    dsimp only at hb hk
    obtain ⟨C, t', f, hh, _, hC⟩ := hw.blk b m' l hb
    have cellAt : ∀ j, j < len → ∃ u, C.toList[o + j]? = some u ∧ KT σ u (.int .u8) := fun j hj => hC.2 (o + j) _ (hk j hj)
    have hnl : ((C.toList.drop o).take len).length = len := by
      rw [List.length_take, List.length_drop]
      rcases Nat.eq_zero_or_pos len with e0 | e0
      · omega
      · obtain ⟨u, h3, _⟩ := cellAt (len - 1) (by omega)
        have := (List.getElem?_eq_some_iff.1 h3).1
        omega
    obtain ⟨bs, hbs⟩ := bys_of (σ := σ) (C := (C.toList.drop o).take len) (fun v hv => by
      obtain ⟨j, hj, rfl⟩ := List.mem_iff_getElem.1 hv
      obtain ⟨u, h3, h4⟩ := cellAt j (by omega)
      have h5 : ((C.toList.drop o).take len)[j]? = some u := by rw [List.getElem?_take, if_pos (by omega), List.getElem?_drop]; exact h3
      rw [List.getElem?_eq_getElem hj] at h5
      cases h5
      exact h4)
    have hbl : bs.length = len := by rw [← hnl, hbs, Mem.bys, List.length_map]
    subst hbl
    refine ⟨_, cap, bs, rfl, ⟨by rw [Mem.bys, List.length_map, Nat.mul_one], .inr ⟨b, o, cap, rfl, hw.lt hb, l3, l4, fun j u hj => ?_⟩⟩, l1, l2⟩
    rw [cell_of_row w b _ _ _ _ hh]
    rw [← hbs, List.getElem?_take] at hj
    split at hj
    · rw [List.getElem?_drop] at hj; simpa using hj
    · cases hj
theorem SL.ss {x : Value} (hx : SL σ x 1) : SS σ x false (.int .u8) 0 1000000 := by
  obtain ⟨a, len, cap, e, h1, h2, h0, h3, h4⟩ := hx
  refine ⟨a, len, cap, e, Nat.zero_le _, h0, h1, h2, h3, fun p hp => ?_⟩
  obtain ⟨hs, m, l, hb, h5⟩ := h4 p hp
  exact ⟨hs, m, l, hb, (fun h => nomatch h), fun i hi => h5 i (by omega)⟩
theorem conv_ok (hc : c.Ok) (hw : WT c.gt σ w) {t t' : TypeId} {i0 i : TI} (hi0 : c.t t = some i0) (hi : c.t t' = some i) (hst : i.str = true) (hsl : i0.sl = some 1) (hz : i0.u8 = true) {x : Value} {m : Bool} {lo hi' : Nat} (hx : SS σ x m (.int .u8) lo hi') :
    Yl c σ w (convert t t' x) .str := by
  obtain ⟨e, ie, z, hu, hie, hes, _⟩ := (hc.t hi0).sl 1 hsl
  have hut := (hc.t hi).str hst
  have hu8 : c.P.underlying e = some (.int .u8) := by
    obtain ⟨e', hu', h8⟩ := (hc.t hi0).u8 hz
    rw [hu] at hu'
    cases hu'
    exact h8
  obtain ⟨q, cap, l, rfl, hl, _⟩ := SS.rd hw hx
  exact ⟨_, w, Mem.run_conv_str hl t' t e hut hu hu8, .stay hw ⟨_, rfl⟩⟩
theorem append_ok (hc : c.Ok) (hw : WT c.gt σ w) {t ty : TypeId} {i : TI} {κs : List K} (hi : c.t t = some i) (hsl : i.sl = some κs.length) (hk0 : 0 < κs.length) (hzz : kle i.slz κs = true) {v x : Value} {lo hi' lo' hi2 : Nat}
    (hv : OW σ v κs lo hi') (hx : OW σ x κs lo' hi2 ∨ ∃ m κ, κs = [κ] ∧ SS σ x m κ lo' hi2) (hlim : hi' + hi2 ≤ 100000000) : Yl c σ w (Builtin.append_ #[t, t] ty #[v, x]) (.ow κs (lo + lo') (hi' + hi2)) := by
  obtain ⟨e, ie, z, hu, hie, hes, hiz, hzk, hzl, hby⟩ := (hc.t hi).sl _ hsl
  have hzk' : CT σ z.cells.toList κs := kle_ok hzz (hzk.mono (fun b x hb => by simp [nil0] at hb))
  have hzs : z.cells.size = κs.length := by have := hzk'.1; simpa using this
  have hkn := kle_nw hzz
  -- the source, read
  have src : ∃ m news, Src c.P ie.size t x m news w ∧ lo' ≤ m ∧ m ≤ hi2 ∧ (∀ (a b : Nat) (κ : K), a < m → κs[b]? = some κ → ∃ u, news[a * κs.length + b]? = some u ∧ KT σ u κ) := by
    rcases hx with (⟨rfl, rfl⟩ | ⟨b, len, cap, l, rfl, h1, h2, h3, h4, hb, h5, h6⟩) | ⟨mm, κ0, rfl, a, len, cap, rfl, h1, h2, h3, h4, h5, h6⟩
    · exact ⟨0, [], Src.ofNil w hu 0, Nat.le_refl _, Nat.zero_le _, fun a b κ ha => by omega⟩
    rotate_left
    · cases a with
      | none =>
        obtain rfl := h5 rfl
        obtain rfl : len = 0 := by omega
        exact ⟨0, [], Src.ofNil w hu 0, h1, h2, fun a b κ ha => by omega⟩
      | some p =>
        obtain ⟨hs, m', l, hb, _, hk⟩ := h6 p rfl
        obtain ⟨b, o, s⟩ := p
        obtain rfl : s = none := hs
        dsimp only at hb hk
        obtain ⟨C, t', f, hh, _, hC⟩ := hw.blk b m' l hb
        have cellAt : ∀ j, j < len → ∃ u, C.toList[o + j]? = some u ∧ KT σ u κ0 := fun j hj => hC.2 (o + j) κ0 (hk j hj)
        have hnl : ((C.toList.drop o).take len).length = len * ie.size := by
          rw [List.length_take, List.length_drop, hes, List.length_singleton, Nat.mul_one]
          rcases Nat.eq_zero_or_pos len with e0 | e0
          · omega
          · obtain ⟨u, h3, _⟩ := cellAt (len - 1) (by omega)
            have := (List.getElem?_eq_some_iff.1 h3).1
            omega
        refine ⟨len, (C.toList.drop o).take len, Src.ofSlice w hu ⟨b, o, none⟩ len cap _ hnl (fun j u hj => ?_) (fun u hu' => by
          obtain ⟨j, hj, rfl⟩ := List.mem_iff_getElem.1 hu'
          have hj' : j < len := by rw [List.length_take] at hj; omega
          obtain ⟨u, h3, h4⟩ := cellAt j hj'
          have h5 : ((C.toList.drop o).take len)[j]? = some u := by rw [List.getElem?_take, if_pos hj', List.getElem?_drop]; exact h3
          rw [List.getElem?_eq_getElem hj] at h5
          cases h5
          exact h4.one (hkn κ0 (by simp))), h1, h2, fun a d κ ha hd => ?_⟩
        · rw [al_add, cell_of_row w b _ _ _ _ hh]
          rw [List.getElem?_take] at hj
          split at hj
          · rw [List.getElem?_drop] at hj; simpa using hj
          · cases hj
        · cases d with
          | zero =>
            cases hd
            obtain ⟨u, h3, h4⟩ := cellAt a ha
            refine ⟨u, ?_, h4⟩
            rw [List.length_singleton, Nat.mul_one, Nat.add_zero, List.getElem?_take, if_pos ha, List.getElem?_drop]
            exact h3
          | succ d => simp at hd
    · obtain ⟨C, t', f, hh, _, hC⟩ := hw.blk b true l hb
      have hCl := hC.1
      have hle : len * κs.length ≤ C.toList.length := by rw [hCl, h5]; exact Nat.mul_le_mul_right _ h3
      have hnl : (C.toList.take (len * κs.length)).length = len * ie.size := by rw [List.length_take, hes]; omega
      refine ⟨len, C.toList.take (len * κs.length), Src.ofSlice w hu ⟨b, 0, none⟩ len cap _ hnl (fun j u hj => ?_) (fun u hu' => by
        obtain ⟨j, hj, rfl⟩ := List.mem_iff_getElem.1 hu'
        have hj' : j < len * κs.length := by rw [List.length_take] at hj; omega
        have hq : j / κs.length * κs.length + j % κs.length = j := Nat.div_add_mod' j _
        have hd : κs[j % κs.length]? = some (κs[j % κs.length]'(Nat.mod_lt _ hk0)) := List.getElem?_eq_getElem _
        have h7 := h6 (j / κs.length) (j % κs.length) _ (by have := (Nat.div_lt_iff_lt_mul hk0).2 hj'; omega) hd
        rw [hq] at h7
        obtain ⟨u, hu1, hu2⟩ := hC.2 _ _ h7
        have h5 : (C.toList.take (len * κs.length))[j]? = some u := by rw [List.getElem?_take, if_pos hj']; exact hu1
        rw [List.getElem?_eq_getElem hj] at h5
        cases h5
        exact hu2.one (hkn _ (List.getElem_mem _))), h1, h2, fun a d κ ha hd => ?_⟩
      · rw [al_add, Nat.zero_add, cell_of_row w b _ _ _ _ hh]
        rw [List.getElem?_take] at hj
        split at hj
        · simpa using hj
        · cases hj
      · have hdl := (List.getElem?_eq_some_iff.1 hd).1
        obtain ⟨u, hu1, hu2⟩ := hC.2 _ κ (h6 a d κ (by omega) hd)
        refine ⟨u, ?_, hu2⟩
        have : a * κs.length + d < len * κs.length := by
          have := Nat.mul_le_mul_right κs.length (show a + 1 ≤ len by omega)
          rw [Nat.succ_mul] at this
          omega
        rw [List.getElem?_take, if_pos this]
        exact hu1
  obtain ⟨m, news, hsrc, hm1, hm2, hnews⟩ := src
  have hnl := hsrc.newsLen
  rw [hes] at hnl
  have grow : ∀ (q : Option Addr) (n cap : Nat) (olds : List Value), v = .slice q n cap → (Builtin.firstCells ie.size n (.slice q n cap)).run c.P w.drew = .ok olds.toArray w.drew → cap < n + m → lo ≤ n → n ≤ hi' → olds.length = n * κs.length →
      (∀ (a b : Nat) (κ : K), a < n → κs[b]? = some κ → ∃ u, olds[a * κs.length + b]? = some u ∧ KT σ u κ) → Yl c σ w (Builtin.append_ #[t, t] ty #[v, x]) (.ow κs (lo + lo') (hi' + hi2)) := by
    intro q n cap olds e1 hold hcap hn1 hn2 hol holds
    subst e1
    have hfit : (n + m) * ie.bytes ≤ 140737488355328 := by
      have := Nat.mul_le_mul (show n + m ≤ 100000000 by omega) hby
      omega
    have hr := run_append_grow_src (P := c.P) w t t ty e ie z hu hie hiz q n cap olds hold x m news hsrc hcap (by omega) (growslice_fits hcap hfit)
    have hge := grownCap_ge w (n + m) cap e
    have hgm := grownCap_le_maxLen w (n + m) cap e (by unfold maxLen; omega)
    obtain ⟨G, hG⟩ : ∃ G, G = grownCap w (n + m) cap e := ⟨_, rfl⟩
    rw [← hG] at hr hge hgm
    have hC : CT σ ((olds ++ news).toArray ++ Builtin.zeroCells z.cells (G - (n + m))).toList (List.replicate G κs).flatten := by
      have hzc : (Builtin.zeroCells z.cells (G - (n + m))).toList.length = (G - (n + m)) * κs.length := by simp [Builtin.zeroCells, hzs]
      refine ⟨?_, fun j κ hj => ?_⟩
      · rw [Array.toList_append, List.length_append, hzc]
        simp only [List.length_append, hol, hnl, List.length_flatten, List.map_replicate, List.sum_replicate_nat]
        rw [← Nat.add_mul, ← Nat.add_mul]
        congr 1
        omega
      · have hjl : j < G * κs.length := by
          have := (List.getElem?_eq_some_iff.1 hj).1
          simpa using this
        have hq : j / κs.length < G := (Nat.div_lt_iff_lt_mul hk0).2 hjl
        have hr' : j % κs.length < κs.length := Nat.mod_lt _ hk0
        have e3 : j / κs.length * κs.length + j % κs.length = j := Nat.div_add_mod' ..
        have hκ : κs[j % κs.length]? = some κ := by
          have h2 := flat_get (κs := κs) G (j / κs.length) (j % κs.length) _ hq (List.getElem?_eq_getElem hr')
          rw [e3, hj] at h2
          rw [List.getElem?_eq_getElem hr']
          exact h2.symm
        rw [Array.toList_append, List.getElem?_append]
        by_cases hlt : j < (n + m) * κs.length
        · rw [if_pos (by simp [hol, hnl, ← Nat.add_mul]; exact hlt)]
          show ∃ v, (olds ++ news)[j]? = some v ∧ KT σ v κ
          rw [List.getElem?_append, hol]
          by_cases hlt2 : j < n * κs.length
          · rw [if_pos hlt2]
            have := holds (j / κs.length) (j % κs.length) κ ((Nat.div_lt_iff_lt_mul hk0).2 hlt2) hκ
            rwa [e3] at this
          · rw [if_neg hlt2]
            have hq2 : n ≤ j / κs.length := (Nat.le_div_iff_mul_le hk0).2 (by omega)
            have hq3 : j / κs.length < n + m := (Nat.div_lt_iff_lt_mul hk0).2 hlt
            have := hnews (j / κs.length - n) (j % κs.length) κ (by omega) hκ
            rwa [show (j / κs.length - n) * κs.length + j % κs.length = j - n * κs.length by rw [Nat.sub_mul]; have := Nat.mul_le_mul_right κs.length hq2; omega] at this
        · rw [if_neg (by simp [hol, hnl, ← Nat.add_mul]; omega)]
          obtain ⟨u, hu1, hu2⟩ := hzk'.2 _ κ hκ
          refine ⟨u, ?_, hu2⟩
          have hlen : (olds ++ news).toArray.toList.length = (n + m) * κs.length := by simp [hol, hnl, Nat.add_mul]
          rw [hlen]
          have hjz : j - (n + m) * κs.length < (G - (n + m)) * κs.length := by rw [Nat.sub_mul]; omega
          have hmod : (j - (n + m) * κs.length) % κs.length = j % κs.length := by
            have e6 : j - (n + m) * κs.length + (n + m) * κs.length = j := Nat.sub_add_cancel (by omega)
            conv => rhs; rw [← e6]
            exact (Nat.add_mul_mod_self_right _ _ _).symm
          have hu1' : z.cells[j % κs.length]? = some u := by simpa using hu1
          obtain ⟨hlt3, h3⟩ := Array.getElem?_eq_some_iff.1 hu1'
          simp [Builtin.zeroCells, hzs, hjz, hmod]
          rw [getElem!_pos z.cells (j % κs.length) hlt3]
          exact h3
    obtain ⟨g1, g2⟩ := Go1.alloc (hw.drew) _ e _ hC
    refine ⟨_, _, hr, _, ⟨g1.same, g1.os, g1.tape, g1.output, g1.size, g1.kept⟩, g2, .inr ⟨w.heap.size, n + m, G, (List.replicate G κs).flatten, rfl, by omega, by omega, hge, hgm, by unfold more; exact if_pos rfl, by simp, fun i j κ h1 h2 => flat_get G i j κ h1 h2⟩⟩
  rcases hv with ⟨rfl, rfl⟩ | ⟨b, len, cap, l, rfl, h1, h2, h3, h4, hb, h5, h6⟩
  · by_cases hm0 : m = 0
    · subst hm0
      have hn : news = [] := List.eq_nil_of_length_eq_zero (by simpa using hnl)
      subst hn
      have hcs := hsrc.cells
      refine ⟨.slice none 0 0, w, ?_, .stay hw (.inl ⟨rfl, by omega⟩)⟩
      rcases hsrc.kind with ⟨e', hk⟩ | hk <;> simp [Builtin.append_, run_underlying hu, run_underlying hk, sizeOf, typeInfo, hie, hsrc.len, hcs]
    · exact grow none 0 0 [] rfl (run_firstCells_none w.drew ie.size 0 0 0) (by omega) (Nat.le_refl _) (Nat.zero_le _) (by simp) (fun a b κ ha => by omega)
  · obtain ⟨C, t', f, hh, hf, hC⟩ := hw.blk b true l hb
    obtain rfl : f = (0, 0) := hf rfl
    have hCl := hC.1
    simp only [Array.length_toList] at hCl
    by_cases hroom : len + m ≤ cap
    · have hfit : len * κs.length + news.length ≤ C.size := by
        rw [hnl, ← Nat.add_mul, hCl, h5]
        exact Nat.mul_le_mul_right _ hroom
      have hr := run_append_room_src (P := c.P) w t t ty e ie hu hie b 0 len cap x m news hsrc hroom
        (fun j hj => by
          rw [cell_of_row w b _ C t' (0, 0) hh, hes]
          have : 0 + len * κs.length + j < C.size := by omega
          rw [Array.getElem?_eq_getElem this]; rfl)
        (fun j hj => frozen_of_row _ _ _ _ _ hh)
      rw [hes, Nat.zero_add] at hr
      obtain ⟨C', k2, k3, k4, k5⟩ := Mem.setCells_block b t' (0, 0) news (len * κs.length) w C hh
      have hC' : CT σ C'.toList l := by
        refine ⟨by simp [k3, hCl], fun j κ hj => ?_⟩
        have hjl := (List.getElem?_eq_some_iff.1 hj).1
        have e4 := k4 j
        rw [Array.getElem?_toList]
        rw [e4]
        by_cases hin : len * κs.length ≤ j ∧ j < len * κs.length + news.length ∧ j < C.size
        · rw [if_pos hin]
          have hr' : j % κs.length < κs.length := Nat.mod_lt _ hk0
          have e3 : j / κs.length * κs.length + j % κs.length = j := Nat.div_add_mod' ..
          have hq2 : len ≤ j / κs.length := (Nat.le_div_iff_mul_le hk0).2 hin.1
          have hq3 : j / κs.length < len + m := (Nat.div_lt_iff_lt_mul hk0).2 (by rw [Nat.add_mul, ← hnl]; exact hin.2.1)
          have hκ : κs[j % κs.length]? = some κ := by
            have h7 := h6 (j / κs.length) (j % κs.length) _ (by omega) (List.getElem?_eq_getElem hr')
            rw [e3, hj] at h7
            rw [List.getElem?_eq_getElem hr']
            exact h7.symm
          have := hnews (j / κs.length - len) (j % κs.length) κ (by omega) hκ
          rwa [show (j / κs.length - len) * κs.length + j % κs.length = j - len * κs.length by rw [Nat.sub_mul]; have := Nat.mul_le_mul_right κs.length hq2; omega] at this
        · rw [if_neg hin]
          obtain ⟨u, hu1, hu2⟩ := hC.2 j κ hj
          exact ⟨u, by simpa using hu1, hu2⟩
      have hne : ∀ k, k ≠ b → (w.setCells b (len * κs.length) news).heap[k]? = w.heap[k]? ∨ w.heap.size ≤ k := fun k hk => by
        rcases Nat.lt_or_ge k w.heap.size with h | h
        · exact .inl (k5.block k h (fun e => hk (by cases e; rfl)))
        · exact .inr h
      refine ⟨_, _, hr, σ, ⟨fun _ _ => rfl, k5.os, k5.tape, k5.output, k5.size, fun k hk hn => k5.block k hk (fun e => hn l (by cases e; exact hb))⟩, ⟨hw.tab, fun g D hg => ?_, fun k mm l' hk => ?_⟩, .inr ⟨b, len + m, cap, l, rfl, by omega, by omega, hroom, h4, hb, h5, h6⟩⟩
      · obtain ⟨⟨l', hl⟩, t2, f2, hh2⟩ := hw.fx g D hg
        refine ⟨⟨l', hl⟩, t2, f2, ?_⟩
        rcases hne g (fun e => by rw [e, hb] at hl; cases hl) with h | h
        · rw [h]; exact hh2
        · have := hw.lt hl; omega
      · obtain ⟨D, t2, f2, hh2, q1, q2⟩ := hw.blk k mm l' hk
        by_cases hkb : k = b
        · subst hkb
          rw [hb] at hk
          cases hk
          exact ⟨C', t', (0, 0), k2, fun _ => rfl, hC'⟩
        · refine ⟨D, t2, f2, ?_, q1, q2⟩
          rcases hne k hkb with h | h
          · rw [h]; exact hh2
          · have := hw.lt hk; omega
    · have hle : len * κs.length ≤ C.toList.length := by simp only [Array.length_toList]; rw [hCl, h5]; exact Nat.mul_le_mul_right _ h3
      refine grow (some ⟨b, 0, none⟩) len cap (C.toList.take (len * κs.length)) rfl ?_ (by omega) h1 h2 (by rw [List.length_take]; omega) (fun a d κ ha hd => ?_)
      · refine run_firstCells_some w.drew ie.size len ⟨b, 0, none⟩ len cap _ (by rw [List.length_take, hes]; omega) (fun j u hj => ?_)
        rw [al_add, Nat.zero_add, World.cell?_drew, cell_of_row w b _ _ _ _ hh]
        rw [List.getElem?_take] at hj
        split at hj
        · simpa using hj
        · cases hj
      · have hdl := (List.getElem?_eq_some_iff.1 hd).1
        obtain ⟨u, hu1, hu2⟩ := hC.2 _ κ (h6 a d κ (by omega) hd)
        refine ⟨u, ?_, hu2⟩
        have : a * κs.length + d < len * κs.length := by
          have := Nat.mul_le_mul_right κs.length (show a + 1 ≤ len by omega)
          rw [Nat.succ_mul] at this
          omega
        rw [List.getElem?_take, if_pos this]
        exact hu1
end
end Ab
end Go.Proofs.YtmonkggoilhngaaGreatDoor
/- A reckoning with kinds: operations as they stand in a region, and calls. Plain; no condition. -/
namespace Go.Proofs.YtmonkggoilhngaaGreatDoor
set_option linter.unusedVariables false
set_option linter.unusedSimpArgs false
open Go.RowKit
namespace Ab
set_option warn.classDefReducibility false
attribute [local instance 100000] decEqI decLeI decLtI
def subI (k : IntKind) (a b : Int) : T → Bool
  | .any => true
  | .int k' a' b' => decide (k = k' ∧ a' ≤ a ∧ b ≤ b')
  | _ => false
def subB : T → Bool
  | .any => true
  | .bool => true
  | _ => false
def subCb (x : Bool) : T → Bool
  | .any => true
  | .bool => true
  | .cb y => x == y
  | _ => false
def subAgg (l : List K) : T → Bool
  | .any => true
  | .agg l' => kle l l'
  | _ => false
def subPtr (m : Bool) (l : List K) (o : Nat) : T → Bool
  | .any => true
  | .ptr m' l' o' => (m || !m') && decide (l = l') && o == o'
  | _ => false
def subSl (n : Nat) : T → Bool
  | .any => true
  | .sl n' => n == n'
  | .ss m κ a b => n == 1 && !m && decide (κ = .int .u8) && a == 0 && decide (1000000 ≤ b)
  | _ => false
def subNl : T → Bool
  | .any => true
  | .nl => true
  | .sl _ => true
  | .ss _ _ a _ => a == 0
  | .ow _ a _ => a == 0
  | _ => false
def subSs (m : Bool) (κ : K) (a b : Nat) : T → Bool
  | .any => true
  | .ss m' κ' a' b' => (m || !m') && decide (κ = κ') && decide (a' ≤ a) && decide (b ≤ b')
  | .sl n => decide (κ = .int .u8) && n == 1 && decide (b ≤ 1000000)
  | _ => false
def subOw (κs : List K) (a b : Nat) : T → Bool
  | .any => true
  | .ow κs' a' b' => decide (κs = κs') && decide (a' ≤ a) && decide (b ≤ b')
  | .sl n => decide (κs = List.replicate n (.int .u8)) && decide (b ≤ 1000000)
  | .ss _ κ a' b' => decide (κs = [κ]) && decide (a' ≤ a) && decide (b ≤ b')
  | _ => false
def subPk (m : Bool) (κ : K) (n : Nat) : T → Bool
  | .any => true
  | .pk m' κ' n' => (m || !m') && decide (κ = κ') && decide (n' ≤ n)
  | _ => false
def subPr (m : Bool) (ks : List K) : T → Bool
  | .any => true
  | .pr m' ks' => (m || !m') && decide (ks = ks')
  | _ => false
def subNp : T → Bool
  | .any => true
  | .np => true
  | _ => false
def subStr : T → Bool
  | .any => true
  | .str => true
  | _ => false
def subUnd : T → Bool
  | .any => true
  | .und => true
  | _ => false
def isAny : T → Bool
  | .any => true
  | _ => false
def sub : T → T → Bool
  | .or a b, τ => sub a τ && sub b τ
  | .t2 a b, τ => match τ with
    | .any => true
    | .t2 a' b' => sub a a' && sub b b'
    | _ => false
  | .t3 a b d, τ => match τ with
    | .any => true
    | .t3 a' b' d' => sub a a' && sub b b' && sub d d'
    | _ => false
  | .int k a b, τ => subI k a b τ
  | .bool, τ => subB τ
  | .cb x, τ => subCb x τ
  | .agg l, τ => subAgg l τ
  | .ptr m l o, τ => subPtr m l o τ
  | .sl n, τ => subSl n τ
  | .nl, τ => subNl τ
  | .ss m κ a b, τ => subSs m κ a b τ
  | .ow κs a b, τ => subOw κs a b τ
  | .pk m κ n, τ => subPk m κ n τ
  | .pr m ks, τ => subPr m ks τ
  | .np, τ => subNp τ
  | .str, τ => subStr τ
  | .und, τ => subUnd τ
  | .any, τ => isAny τ
theorem sub_ok {σ : S} : ∀ (τ τ' : T) {v : Value}, VT σ v τ → sub τ τ' = true → VT σ v τ' := by
  intro τ
  induction τ with
  | int k a b =>
    intro τ' v hv h
    simp only [sub] at h
    unfold subI at h
    split at h
    · trivial
    · obtain ⟨n, rfl, h1, h2⟩ := hv
      simp only [decide_eq_true_eq] at h
      obtain ⟨rfl, h3, h4⟩ := h
      exact ⟨n, rfl, Int.le_trans h3 h1, Int.le_trans h2 h4⟩
    · cases h
  | bool => intro τ' v hv h; simp only [sub] at h; unfold subB at h; split at h <;> first | trivial | exact hv | cases h
  | cb x =>
    intro τ' v hv h
    simp only [sub] at h
    unfold subCb at h
    split at h
    · trivial
    · exact ⟨_, hv⟩
    · rw [beq_iff_eq] at h; subst h; exact hv
    · cases h
  | agg l =>
    intro τ' v hv h
    simp only [sub] at h
    unfold subAgg at h
    split at h
    · trivial
    · obtain ⟨C, rfl, hC⟩ := hv; exact ⟨C, rfl, kle_ok h hC⟩
    · cases h
  | ptr m l o =>
    intro τ' v hv h
    simp only [sub] at h
    unfold subPtr at h
    split at h
    · trivial
    · obtain ⟨b, m0, rfl, hb, hm⟩ := hv
      simp only [Bool.and_eq_true, decide_eq_true_eq, beq_iff_eq] at h
      obtain ⟨⟨h1, rfl⟩, rfl⟩ := h
      exact ⟨b, m0, rfl, hb, fun e => hm (by simpa [e] using h1)⟩
    · cases h
  | sl n =>
    intro τ' v hv h
    simp only [sub] at h
    unfold subSl at h
    split at h
    · trivial
    · rw [beq_iff_eq] at h; subst h; exact hv
    · simp only [Bool.and_eq_true, decide_eq_true_eq, beq_iff_eq, Bool.not_eq_true'] at h
      obtain ⟨⟨⟨⟨rfl, hm⟩, rfl⟩, rfl⟩, hb⟩ := h
      obtain ⟨q, len, cap, e, l1, l2, l3, l4, l5, l6⟩ := SL.ss hv
      refine ⟨q, len, cap, e, by omega, by omega, l3, l4, l5, fun p hp => ?_⟩
      obtain ⟨hs, m0, l, hb, _, hk⟩ := l6 p hp
      exact ⟨hs, m0, l, hb, (fun e => by rw [hm] at e; cases e), hk⟩
    · cases h
  | nl =>
    intro τ' v hv h
    obtain rfl : v = _ := hv
    simp only [sub] at h
    unfold subNl at h
    split at h
    · trivial
    · exact rfl
    · exact SL_nil σ _
    · rw [beq_iff_eq] at h; subst h; exact ⟨none, 0, 0, rfl, Nat.le_refl _, Nat.zero_le _, Nat.le_refl _, Nat.zero_le _, fun _ => rfl, fun _ h => nomatch h⟩
    · rw [beq_iff_eq] at h; subst h; exact .inl ⟨rfl, rfl⟩
    · cases h
  | np => intro τ' v hv h; simp only [sub] at h; unfold subNp at h; split at h <;> first | trivial | exact hv | cases h
  | ss m κ a b =>
    intro τ' v hv h
    simp only [sub] at h
    unfold subSs at h
    split at h
    · trivial
    · simp only [Bool.and_eq_true, decide_eq_true_eq] at h
      obtain ⟨⟨⟨h1, rfl⟩, h2⟩, h3⟩ := h
      obtain ⟨q, len, cap, e, l1, l2, l3, l4, l5, l6⟩ := hv
      refine ⟨q, len, cap, e, by omega, by omega, l3, l4, l5, fun p hp => ?_⟩
      obtain ⟨hs, m0, l, hb, hm, hk⟩ := l6 p hp
      exact ⟨hs, m0, l, hb, fun e => hm (by simpa [e] using h1), hk⟩
    · simp only [Bool.and_eq_true, decide_eq_true_eq, beq_iff_eq] at h
      obtain ⟨⟨rfl, rfl⟩, hb⟩ := h
      exact SS.sl hv hb
    · cases h
  | pk m κ n =>
    intro τ' v hv h
    simp only [sub] at h
    unfold subPk at h
    split at h
    · trivial
    · simp only [Bool.and_eq_true, decide_eq_true_eq] at h
      obtain ⟨⟨h1, rfl⟩, h2⟩ := h
      obtain ⟨p, m0, l, e, hs, hb, hm, hk⟩ := hv
      exact ⟨p, m0, l, e, hs, hb, fun e => hm (by simpa [e] using h1), fun i hi => hk i (by omega)⟩
    · cases h
  | ow κs a b =>
    intro τ' v hv h
    simp only [sub] at h
    unfold subOw at h
    split at h
    · trivial
    · simp only [Bool.and_eq_true, decide_eq_true_eq] at h
      obtain ⟨⟨rfl, h1⟩, h2⟩ := h
      exact OW.wide hv h1 h2
    · simp only [Bool.and_eq_true, decide_eq_true_eq] at h
      obtain ⟨rfl, hb⟩ := h
      exact OW.sl hv hb
    · simp only [Bool.and_eq_true, decide_eq_true_eq] at h
      obtain ⟨⟨rfl, h1⟩, h2⟩ := h
      obtain ⟨q, len, cap, e, l1, l2, l3, l4, l5, l6⟩ := OW.ss hv
      refine ⟨q, len, cap, e, by omega, by omega, l3, l4, l5, fun p hp => ?_⟩
      obtain ⟨hs, m0, l, hb, hm, hk⟩ := l6 p hp
      exact ⟨hs, m0, l, hb, fun _ => hm rfl, hk⟩
    · cases h
  | pr m ks =>
    intro τ' v hv h
    simp only [sub] at h
    unfold subPr at h
    split at h
    · trivial
    · simp only [Bool.and_eq_true, decide_eq_true_eq] at h
      obtain ⟨h1, rfl⟩ := h
      obtain ⟨p, m0, l, e, hs, hb, hm, hk⟩ := hv
      exact ⟨p, m0, l, e, hs, hb, fun e => hm (by simpa [e] using h1), hk⟩
    · cases h
  | str => intro τ' v hv h; simp only [sub] at h; unfold subStr at h; split at h <;> first | trivial | exact hv | cases h
  | und => intro τ' v hv h; simp only [sub] at h; unfold subUnd at h; split at h <;> first | trivial | exact hv | cases h
  | any => intro τ' v hv h; simp only [sub] at h; unfold isAny at h; split at h <;> first | trivial | exact hv | cases h
  | t2 a b iha ihb =>
    intro τ' v hv h
    simp only [sub] at h
    split at h
    · trivial
    · rw [Bool.and_eq_true] at h
      obtain ⟨x, y, rfl, hx, hy⟩ := hv
      exact ⟨x, y, rfl, iha _ hx h.1, ihb _ hy h.2⟩
    · cases h
  | t3 a b d iha ihb ihd =>
    intro τ' v hv h
    simp only [sub] at h
    split at h
    · trivial
    · rw [Bool.and_eq_true, Bool.and_eq_true] at h
      obtain ⟨x, y, z, rfl, hx, hy, hz⟩ := hv
      exact ⟨x, y, z, rfl, iha _ hx h.1.1, ihb _ hy h.1.2, ihd _ hz h.2⟩
    · cases h
  | or a b iha ihb =>
    intro τ' v hv h
    simp only [sub] at h
    rw [Bool.and_eq_true] at h
    rcases hv with hv | hv
    · exact iha _ hv h.1
    · exact ihb _ hv h.2
theorem nl_ow {σ : S} {v : Value} (hv : v = .slice none 0 0) (κs : List K) (b : Nat) : VT σ v (.ow κs 0 b) := .inl ⟨hv, rfl⟩
theorem nl_ss {σ : S} {v : Value} (hv : v = .slice none 0 0) (m : Bool) (κ : K) (b : Nat) : VT σ v (.ss m κ 0 b) := ⟨none, 0, 0, hv, Nat.le_refl _, Nat.zero_le _, Nat.le_refl _, Nat.zero_le _, fun _ => rfl, fun _ h => nomatch h⟩
theorem ss_low {σ : S} {v : Value} {m : Bool} {κ : K} {a b : Nat} (hv : VT σ v (.ss m κ a b)) : VT σ v (.ss m κ 0 b) := by
  obtain ⟨q, len, cap, e, l1, l2, l3⟩ := hv
  exact ⟨q, len, cap, e, Nat.zero_le _, l2, l3⟩
def join2I (k : IntKind) (a b : Int) : T → T
  | .int k' a' b' => if k = k' then .int k (min a a') (max b b') else .any
  | _ => .any
def join2C : T → T
  | .cb _ => .bool
  | _ => .any
def join2O (κs : List K) (a b : Nat) : T → T
  | .ow κs' a' b' => if κs = κs' then .ow κs (min a a') (max b b') else .any
  | .nl => .ow κs 0 b
  | _ => .any
def join2N : T → T
  | .ow κs _ b => .ow κs 0 b
  | .ss m κ _ b => .ss m κ 0 b
  | _ => .any
def join2S (m : Bool) (κ : K) (b : Nat) : T → T
  | .nl => .ss m κ 0 b
  | _ => .any
def join2 (τ τ' : T) : T := match τ with
    | .int k a b => join2I k a b τ'
    | .cb _ => join2C τ'
    | .ow κs a b => join2O κs a b τ'
    | .nl => join2N τ'
    | .ss m κ _ b => join2S m κ b τ'
    | _ => .any
def join (τ τ' : T) : T :=
  match sub τ τ' with
  | true => τ'
  | false => match sub τ' τ with
    | true => τ
    | false => join2 τ τ'
theorem join2_l {σ : S} {τ τ' : T} {v : Value} (hv : VT σ v τ) : VT σ v (join2 τ τ') := by
  unfold join2
  split
  · unfold join2I
    split
    · obtain ⟨n, rfl, h1, h2⟩ := hv
      split
      · exact ⟨n, rfl, by omega, by omega⟩
      · trivial
    · trivial
  · unfold join2C
    split
    · exact ⟨_, hv⟩
    · trivial
  · unfold join2O
    split
    · split
      · exact OW.wide hv (Nat.min_le_left ..) (Nat.le_max_left ..)
      · trivial
    · exact OW.wide hv (Nat.zero_le _) (Nat.le_refl _)
    · trivial
  · unfold join2N
    split
    · exact nl_ow hv _ _
    · exact nl_ss hv _ _ _
    · trivial
  · unfold join2S
    split
    · exact ss_low hv
    · trivial
  · trivial
theorem join2_r {σ : S} {τ τ' : T} {v : Value} (hv : VT σ v τ') : VT σ v (join2 τ τ') := by
  unfold join2
  split
  · unfold join2I
    split
    · obtain ⟨n, rfl, h1, h2⟩ := hv
      split
      · rename_i hk; subst hk; exact ⟨n, rfl, by omega, by omega⟩
      · trivial
    · trivial
  · unfold join2C
    split
    · exact ⟨_, hv⟩
    · trivial
  · unfold join2O
    split
    · split
      · rename_i hk; subst hk; exact OW.wide hv (Nat.min_le_right ..) (Nat.le_max_right ..)
      · trivial
    · exact nl_ow hv _ _
    · trivial
  · unfold join2N
    split
    · exact OW.wide hv (Nat.zero_le _) (Nat.le_refl _)
    · exact ss_low hv
    · trivial
  · unfold join2S
    split
    · exact nl_ss hv _ _ _
    · trivial
  · trivial
theorem join_l {σ : S} {τ τ' : T} {v : Value} (hv : VT σ v τ) : VT σ v (join τ τ') := by
  unfold join
  split
  · rename_i h; exact sub_ok _ _ hv h
  · split
    · exact hv
    · exact join2_l hv
theorem join_r {σ : S} {τ τ' : T} {v : Value} (hv : VT σ v τ') : VT σ v (join τ τ') := by
  unfold join
  split
  · exact hv
  · split
    · rename_i h; exact sub_ok _ _ hv h
    · exact join2_r hv
def jv : Option T → Option T → Option T
  | some x, some y => some (join x y)
  | _, _ => none
noncomputable def joinTr (t : Tr) : Tr → Tr :=
  Tr.rec (motive := fun _ => Tr → Tr) (fun _ => .nil) (fun v _ _ il ir b => match b with
    | .nil => .nil
    | .nd v' l' r' => .nd (jv v v') (il l') (ir r')) t
theorem joinTr_nd (v : Option T) (l r : Tr) (v' : Option T) (l' r' : Tr) : joinTr (.nd v l r) (.nd v' l' r') = .nd (jv v v') (joinTr l l') (joinTr r r') := rfl
theorem joinTr_nil (v : Option T) (l r : Tr) : joinTr (.nd v l r) .nil = .nil := rfl
theorem joinTr_get : ∀ (k : Nat) (t t' : Tr) (n : Nat) (τ : T), (joinTr t t').get k n = some τ → ∃ x y, t.get k n = some x ∧ t'.get k n = some y ∧ τ = join x y
  | 0, _, _, _, _, h => by cases h
  | k + 1, t, t', n, τ, h => by
    cases t with
    | nil =>
      have : joinTr .nil t' = .nil := rfl
      rw [this, Tr.get_nil] at h
      cases h
    | nd v l r =>
      cases t' with
      | nil => rw [joinTr_nil, Tr.get_nil] at h; cases h
      | nd v' l' r' =>
        rw [joinTr_nd] at h
        rw [Tr.get_succ] at h ⊢
        rw [Tr.get_succ]
        rcases way n with rfl | ⟨h1, h2, _⟩ | ⟨h1, h2, _⟩
        · have h : jv v v' = some τ := h
          show ∃ x y, v = some x ∧ v' = some y ∧ τ = join x y
          cases v with
          | none => cases h
          | some x =>
            cases v' with
            | none => cases h
            | some y => cases h; exact ⟨x, y, rfl, rfl, rfl⟩
        · simp only [h1, h2, Tr.left] at h ⊢; exact joinTr_get k _ _ _ _ h
        · simp only [h1, h2, Tr.right] at h ⊢; exact joinTr_get k _ _ _ _ h
noncomputable def joinE (Γ Γ' : Env) : Env := match Nat.beq Γ.length Γ'.length with
  | true => ⟨Γ.length, joinTr Γ.tr Γ'.tr⟩
  | false => ⟨0, .nil⟩
theorem joinE_at {Γ Γ' : Env} {t : Nat} {τ : T} (h : (joinE Γ Γ').at t = some τ) : ∃ x y, Γ.at t = some x ∧ Γ'.at t = some y ∧ τ = join x y := by
  have hlt := Env.lt h
  unfold joinE at h hlt
  split at h
  · rename_i he
    simp only [he] at hlt
    have he' : Γ.length = Γ'.length := Nat.eq_of_beq_eq_true he
    rw [Env.at_ok (by exact hlt)] at h
    obtain ⟨x, y, h1, h2, h3⟩ := joinTr_get _ _ _ _ _ h
    exact ⟨x, y, by rw [Env.at_ok hlt]; exact h1, by rw [Env.at_ok (by rw [← he']; exact hlt), ← he']; exact h2, h3⟩
  · rename_i he
    simp only [he] at hlt
    exact absurd hlt (Nat.not_lt_zero _)
theorem joinE_l {σ : S} {a : Act} {Γ Γ' : Env} (h : Typed σ a Γ) : Typed σ a (joinE Γ Γ') := by
  refine ⟨?_, h.2.1, fun t τ ht => ?_⟩
  · unfold joinE
    split
    · exact h.1
    · exact Nat.zero_le _
  · obtain ⟨x, y, h1, h2, rfl⟩ := joinE_at ht
    exact join_l (h.2.2 t x h1)
theorem joinE_r {σ : S} {a : Act} {Γ Γ' : Env} (h : Typed σ a Γ') : Typed σ a (joinE Γ Γ') := by
  refine ⟨?_, h.2.1, fun t τ ht => ?_⟩
  · unfold joinE
    split
    · rename_i he
      have he' : Γ.length = Γ'.length := Nat.eq_of_beq_eq_true he
      show Γ.length ≤ _
      rw [he']
      exact h.1
    · exact Nat.zero_le _
  · obtain ⟨x, y, h1, h2, rfl⟩ := joinE_at ht
    exact join_r (h.2.2 t y h2)
def subs : List T → List T → Bool
  | [], [] => true
  | a :: r, b :: q => sub a b && subs r q
  | _, _ => false
def Ctx.s0 (c : Ctx) (f : Nat) : List (Nat × List T × T) := c.sg.filter fun x => Nat.beq x.1 f
def Ctx.s (c : Ctx) (f : Nat) (τs : List T) : Option T := ((c.s0 f).find? fun x => subs τs x.2.1).map (·.2.2)
theorem Ctx.Ok.s {c : Ctx} (h : c.Ok) {f : Nat} {τs : List T} {τ : T} (hf : c.s f τs = some τ) : ∃ ρs, SigOk c.P c.gt f ρs τ ∧ subs τs ρs = true := by
  unfold Ctx.s at hf
  rw [Option.map_eq_some_iff] at hf
  obtain ⟨⟨f', ρs, τ'⟩, h1, h2⟩ := hf
  have h3 := List.mem_of_find?_eq_some h1
  have h4 := List.find?_some h1
  unfold Ctx.s0 at h3
  rw [List.mem_filter] at h3
  have h5 : f' = f := Nat.eq_of_beq_eq_true h3.2
  subst h5
  dsimp only at h2
  subst h2
  exact ⟨ρs, h.sg _ h3.1, h4⟩
noncomputable def aLen (c : Ctx) (Γ : Env) (x : Operand) (t : TypeId) : Option T :=
  match c.t t with
      | some i => if i.sl.isSome then lenT (ty c.gt Γ x) else none
      | none => none
def aMin (x y : T) : Option T :=
  match x, y with
      | .int k a b, .int k' a' b' => if k = k' then some (.int k (min a a') (min b b')) else none
      | _, _ => none
def aCopy (c : Ctx) (t : TypeId) (x y : T) : Option T :=
  match c.t t, x with
      | some i, .ss true (.int .u8) a b => if i.sl = some 1 ∧ b ≤ 1000000 ∧ sub y (.sl 1) = true then some (.int .i64 0 1000000) else none
      | _, _ => none
def dstK (κs : List K) (x : T) : Option (Nat × Nat) :=
  match x with
    | .nl => some (0, 0)
    | .ow κs' a b => if κs' = κs then some (a, b) else none
    | _ => none
def srcK (y : T) : Option (List K × Nat × Nat) :=
  match y with
    | .ow κs a b => some (κs, a, b)
    | .ss _ κ a b => some ([κ], a, b)
    | .sl n => if n = 1 then some ([.int .u8], 0, 1000000) else none
    | _ => none
def aAppend (c : Ctx) (t t' : TypeId) (x y : T) : Option T :=
  match c.t t with
    | some i => match srcK y with
      | some (κs, a', b') => match dstK κs x with
        | some (a, b) => if t = t' ∧ i.sl = some κs.length ∧ 0 < κs.length ∧ kle i.slz κs = true ∧ b + b' ≤ 100000000 then some (.ow κs (a + a') (b + b')) else none
        | none => none
      | none => none
    | none => none
noncomputable def aCall (c : Ctx) (Γ : Env) (f : Callee) (args : List Operand) (ts : List TypeId) : Option T :=
  match f with
    | .value x => match x with
      | .func f => c.s f (args.map (ty c.gt Γ))
      | _ => none
    | .builtin b => match args with
      | [x] => match b, ts with
        | .len, [t] => aLen c Γ x t
        | _, _ => none
      | [x, y] => match b, ts with
        | .min, _ => aMin (ty c.gt Γ x) (ty c.gt Γ y)
        | .copy, [t, _] => aCopy c t (ty c.gt Γ x) (ty c.gt Γ y)
        | .append, [t, t'] => aAppend c t t' (ty c.gt Γ x) (ty c.gt Γ y)
        | _, _ => none
      | _ => none
    | _ => none
noncomputable def aStore (c : Ctx) (Γ : Env) (t : TypeId) (x v : Operand) : Option T :=
  match c.t t with
    | some i => match knd (ty c.gt Γ v) with
      | some ks => match ty c.gt Γ x with
        | .ptr true l off => if ks.length = i.size ∧ kle ks (seg l off ks.length) = true ∧ off + ks.length ≤ l.length then some .any else none
        | .pk true κ n => if i.size = 1 ∧ 1 ≤ n ∧ kle ks [κ] = true then some .any else none
        | _ => none
      | none => none
    | none => none
noncomputable def absC (c : Ctx) (Γ : Env) (o : Op) : Option T :=
  match o with
  | .call k => aCall c Γ k.callee k.args.toList k.argTypes.toList
  | .store t x v => aStore c Γ t x v
  | o => absOp c Γ o
theorem subs_ok {c : Ctx} {σ : S} {a : Act} {Γ : Env} : ∀ (xs : List Operand) (τs : List T), (∀ x ∈ xs, VT σ (a.eval x) (ty c.gt Γ x)) → subs (xs.map (ty c.gt Γ)) τs = true → VTs σ (xs.map a.eval) τs
  | [], [], _, _ => ⟨rfl, fun i τ hi => by simp at hi⟩
  | x :: xs, τ :: τs, hx, h => by
    simp only [List.map_cons, subs, Bool.and_eq_true] at h
    have ih := subs_ok xs τs (fun y hy => hx y (List.mem_cons_of_mem _ hy)) h.2
    refine ⟨by simp [ih.1], fun i τ' hi => ?_⟩
    cases i with
    | zero => simp at hi; subst hi; exact ⟨_, rfl, sub_ok _ _ (hx x (List.mem_cons_self ..)) h.1⟩
    | succ i => simpa using ih.2 i τ' (by simpa using hi)
  | [], _ :: _, _, h => by simp [subs] at h
  | _ :: _, [], _, h => by simp [subs] at h
section
variable {c : Ctx} {σ : S} {w : World} {a : Act} {Γ : Env}
theorem wp_of_value {o : Oper} {K : Act → World → Prop} {Q : Exit → Act → World → Prop} {v : Value} {w' : World} (h : (execOp a.eval o).run c.P w = .ok (.value v) w') (hK : K (a.put o.dst v) w') : o.wp c.P a w K Q := by
  unfold Oper.wp
  rw [h]
  exact hK
theorem wp_of_skip {o : Oper} {K : Act → World → Prop} {Q : Exit → Act → World → Prop} {w' : World} (h : (execOp a.eval o).run c.P w = .ok .skip w') (hK : K (a.put o.dst undef) w') : o.wp c.P a w K Q := by
  unfold Oper.wp
  rw [h]
  exact hK
theorem run_v {s : Sem Value} {v : Value} {w' : World} (h : s.run c.P w = .ok v w') : ((do pure (.value (← s)) : Sem Next)).run c.P w = .ok (.value v) w' := by
  rw [Sem.run_bind, h]
  rfl
theorem dstK_ok {κs : List K} {x : T} {lo hi : Nat} (h : dstK κs x = some (lo, hi)) {v : Value} (hv : VT σ v x) : OW σ v κs lo hi := by
  unfold dstK at h
  split at h
  · cases h; exact .inl ⟨hv, rfl⟩
  · split at h
    · rename_i e; cases h; subst e; exact hv
    · cases h
  · cases h
theorem srcK_ok {κs : List K} {y : T} {lo hi : Nat} (h : srcK y = some (κs, lo, hi)) {v : Value} (hv : VT σ v y) : OW σ v κs lo hi ∨ ∃ m κ, κs = [κ] ∧ SS σ v m κ lo hi := by
  unfold srcK at h
  split at h
  · cases h; exact .inl hv
  · rename_i m κ a b; cases h; exact .inr ⟨m, κ, rfl, hv⟩
  · split at h
    · rename_i e; cases h; subst e; exact .inr ⟨false, _, rfl, SL.ss hv⟩
    · cases h
  · cases h
set_option maxHeartbeats 2000000 in
theorem op_ok (hc : c.Ok) (hw : WT c.gt σ w) (o : Oper) (hx : ∀ x ∈ o.op.operands, VT σ (a.eval x) (ty c.gt Γ x)) {τ : T} (h : absC c Γ o.op = some τ) {K : Act → World → Prop} {Q : Exit → Act → World → Prop}
    (hK : ∀ v σ' w', Go1 σ σ' w w' → WT c.gt σ' w' → VT σ' v τ → K (a.put o.dst v) w') : o.wp c.P a w K Q := by
  have val : ∀ {s : Sem Value}, (execOp a.eval o) = (do pure (.value (← s)) : Sem Next) → Yl c σ w s τ → o.wp c.P a w K Q := by
    intro s he ⟨v, w', hr, σ', h1, h2, h3⟩
    exact wp_of_value (by rw [he]; exact run_v hr) (hK v σ' w' h1 h2 h3)
  have stay : ∀ {v : Value}, (execOp a.eval o).run c.P w = .ok (.value v) w → VT σ v τ → o.wp c.P a w K Q := fun he hv => wp_of_value he (hK _ σ w (Go1.refl _ _) hw hv)
  obtain ⟨dst, op, type, pos, after, guard⟩ := o
  cases op
  case move x => cases h; exact stay rfl (hx x (by simp [Op.operands]))
  case assign x => cases h; exact stay rfl (hx x (by simp [Op.operands]))
  case pick x y z =>
    have h1 := hx x (by simp [Op.operands])
    have h2 := hx y (by simp [Op.operands])
    have h3 := hx z (by simp [Op.operands])
    simp only [absC, absOp, aPick] at h
    split at h
    · rename_i hb
      cases h
      rw [hb] at h1
      have h1 : a.eval x = .bool true := h1
      exact stay (v := a.eval y) (by simp [execOp, h1, asBool]) h2
    · rename_i hb
      cases h
      rw [hb] at h1
      have h1 : a.eval x = .bool false := h1
      exact stay (v := a.eval z) (by simp [execOp, h1, asBool]) h3
    · cases h
  case alloc t =>
    simp only [absC, absOp, Option.map_eq_some_iff] at h
    obtain ⟨i, hi, rfl⟩ := h
    obtain ⟨it, z, d, hit, hsz, hz, hzk, hu, hr⟩ := (hc.t hi).info
    have hzk' : CT σ z.cells.toList i.zero := hzk.mono (fun b x hb => by simp [nil0] at hb)
    refine val (s := Instr.alloc t true (.tuple #[])) rfl ?_
    have := box_ok hw t hzk'
    obtain ⟨v, w', h1, h2⟩ := this
    exact ⟨v, w', by simpa [Instr.alloc, zeroValue, run_typeInfo w hit, hz, Instr.box] using h1, h2⟩
  case box t x =>
    simp only [absC, absOp, Option.map_eq_some_iff] at h
    obtain ⟨l, hl, rfl⟩ := h
    exact val (s := Instr.box t (a.eval x)) rfl (box_ok hw t (knd_ok (hx x (by simp [Op.operands])) hl))
  case build t ps =>
    simp only [absC, absOp, aBuild] at h
    split at h
    · rename_i i qs hi hq
      refine val (s := Instr.build t (ps.map fun (p : Nat × Operand) => (p.1, a.eval p.2))) ?_ (build_ok hc hw hi (fun p hp => hx p.2 (by simp only [Op.operands, List.mem_toArray, List.mem_map]; exact ⟨p, hp, rfl⟩)) hq h)
      rfl
    · cases h
  case load t x =>
    simp only [absC, absOp, aLoad] at h
    have h1 := hx x (by simp [Op.operands])
    split at h
    · rename_i i hi
      split at h
      · rename_i m l off hp
        rw [hp] at h1
        exact val (s := Instr.loadAt t (a.eval x)) rfl (load_ok hc hw hi h1 h)
      · rename_i m κ n hp
        rw [hp] at h1
        exact val (s := Instr.loadAt t (a.eval x)) rfl (pk_load hc hw hi h1 h)
      · rename_i m ks hp
        rw [hp] at h1
        exact val (s := Instr.loadAt t (a.eval x)) rfl (pr_load hc hw hi h1 h)
      · cases h
    · cases h
  case nilCheck x =>
    simp only [absC, absOp, aNil] at h
    have h1 := hx x (by simp [Op.operands])
    split at h
    · rename_i m l off hp
      rw [hp] at h1
      cases h
      obtain ⟨b, m', e, hb, hm⟩ := h1
      exact stay (v := a.eval x) (by simp [execOp, e]) ⟨b, m', e, hb, hm⟩
    · rename_i m κ n hp
      rw [hp] at h1
      cases h
      obtain ⟨p, m', l, e, hr⟩ := h1
      exact stay (v := a.eval x) (by simp [execOp, e]) ⟨p, m', l, e, hr⟩
    · rename_i m ks hp
      rw [hp] at h1
      cases h
      obtain ⟨p, m', l, e, hr⟩ := h1
      exact stay (v := a.eval x) (by simp [execOp, e]) ⟨p, m', l, e, hr⟩
    · cases h
  case slice t x lw hg mx =>
    simp only [absC, absOp, aSlice] at h
    cases mx with
    | some _ => simp at h
    | none =>
      simp only at h
      have h1 := hx x (by simp [Op.operands])
      have hb : ∀ (y : Option Operand) (d k : Nat), bnd c Γ y d = some k → (∀ z, y = some z → VT σ (a.eval z) (ty c.gt Γ z)) → (y.map a.eval = none ∧ k = d) ∨ ∃ q, y.map a.eval = some (.int q k) := by
        intro y d k hk hz
        cases y with
        | none => simp [bnd] at hk; exact .inl ⟨rfl, hk.symm⟩
        | some z =>
          have hz := hz z rfl
          simp only [bnd] at hk
          split at hk
          · rename_i q lo hi hp
            rw [hp] at hz
            split at hk
            · rename_i he
              cases hk
              obtain ⟨n, hn, g1, g2⟩ := hz
              refine .inr ⟨q, ?_⟩
              rw [Option.map_some, hn]
              congr 2
              omega
            · cases hk
          · cases hk
      split at h
      · rename_i i m l off hi hp
        rw [hp] at h1
        split at h
        · rename_i n es ha
          split at h
          · rename_i lo hi' e1 e2
            split at h
            · rename_i hh
              obtain ⟨rfl, h2, h3, h4⟩ := hh
              have k1 := hb lw 0 lo e1 (fun z hz => hx z (by subst hz; simp [Op.operands]))
              have k2 := hb hg n hi' e2 (fun z hz => hx z (by subst hz; simp [Op.operands]))
              exact val (s := Instr.sliceAt t (a.eval x) (lw.map a.eval) (hg.map a.eval) none) rfl (arrslice_ok hc hw hi ha h1 _ _ k1 k2 h2 h3 h4 h)
            · cases h
          · cases h
        · cases h
      · cases h
  case sliceToArrayPointer t x =>
    simp only [absC, absOp, aArr] at h
    have h1 := hx x (by simp [Op.operands])
    split at h
    · rename_i i m κ lo hi' hi hp
      rw [hp] at h1
      split at h
      · rename_i n ha
        split at h
        · rename_i hh
          cases h
          exact val (s := Instr.arrayAt t (a.eval x)) rfl (toarr_ok hc hw hi ha h1 hh.1 hh.2)
        · cases h
      · cases h
    · cases h
  case makeSlice t x y =>
    simp only [absC, absOp, aMake] at h
    have h1 := hx x (by simp [Op.operands])
    have h2 := hx y (by simp [Op.operands])
    split at h
    · rename_i i k lo hi' k' lo' hi2 hi hp hq
      rw [hp] at h1
      rw [hq] at h2
      split at h
      · rename_i κ hz
        split at h
        · rename_i hh
          obtain ⟨hsl, rfl, rfl, rfl, h3, h4⟩ := hh
          cases h
          obtain ⟨n, hn, g1, g2⟩ := h1
          obtain ⟨n', hn', g3, g4⟩ := h2
          obtain rfl : n = lo := by omega
          obtain rfl : n' = n := by omega
          refine val (s := Instr.makeSlice t (a.eval x) (a.eval y)) rfl ?_
          rw [hn, hn']
          exact make_ok hc hw hi hsl hz h3 h4
        · cases h
      · cases h
    · cases h
  case buildSlice t n ps =>
    simp only [absC, absOp, aBuildS] at h
    split at h
    · rename_i i qs hi hq
      have hxs : ∀ p ∈ ps.toList, VT σ (a.eval p.2) (ty c.gt Γ p.2) := fun p hp => hx p.2 (by simp only [Op.operands, List.mem_toArray, List.mem_map]; exact ⟨p, hp, rfl⟩)
      split at h
      · rename_i es hsl
        refine val (s := Instr.buildSlice t n (ps.map fun (p : Nat × Operand) => (p.1, a.eval p.2))) ?_ (bs_ok hc hw hi hsl hxs hq h)
        rfl
      · cases h
    · cases h
  case store t x v =>
    simp only [absC, aStore] at h
    have h1 := hx x (by simp [Op.operands])
    have h2 := hx v (by simp [Op.operands])
    split at h
    · rename_i i hi
      split at h
      · rename_i ks hk
        split at h
        · rename_i l off hp
          rw [hp] at h1
          split at h
          · rename_i hh
            cases h
            have hls : (seg l off ks.length).length = ks.length := by unfold seg; simp; omega
            obtain ⟨w', hr, g1, g2⟩ := store_ok hc hw hi h1 (kle_ok hh.2.1 (knd_ok h2 hk)) (by rw [hls]; exact hh.1) (by rw [hls]) (by rw [hls]; exact hh.2.2) (kle_nw hh.2.1)
            refine wp_of_skip (w' := w') ?_ (hK undef σ w' g1 g2 trivial)
            show ((do Instr.storeAt t (a.eval x) (a.eval v); pure .skip : Sem Next)).run c.P w = _
            rw [Sem.run_bind, hr]
            rfl
          · cases h
        · rename_i κ n hp
          rw [hp] at h1
          split at h
          · rename_i hh
            cases h
            obtain ⟨w', hr, g1, g2⟩ := pk_store hc hw hi h1 (kle_ok hh.2.2 (knd_ok h2 hk)) hh.1 hh.2.1 (kle_nw hh.2.2)
            refine wp_of_skip (w' := w') ?_ (hK undef σ w' g1 g2 trivial)
            show ((do Instr.storeAt t (a.eval x) (a.eval v); pure .skip : Sem Next)).run c.P w = _
            rw [Sem.run_bind, hr]
            rfl
          · cases h
        · cases h
      · cases h
    · cases h
  case fieldAddr t x f =>
    simp only [absC, absOp, aField] at h
    have h1 := hx x (by simp [Op.operands])
    split at h
    · rename_i i m l off hi hp
      rw [hp] at h1
      split at h
      · rename_i L hL
        split at h
        · rename_i o' sz hf
          split at h
          · cases h
          · rename_i hs
            cases h
            exact val (s := Instr.fieldAt t (a.eval x) f) rfl (field_ok hc hw hi h1 hL hf hs)
        · cases h
      · cases h
    · cases h
  case indexAddr t x y =>
    simp only [absC, absOp, aIdxA] at h
    have h1 := hx x (by simp [Op.operands])
    have h2 := hx y (by simp [Op.operands])
    refine val (s := Instr.indexAt t (a.eval x) (a.eval y)) rfl ?_
    split at h
    · rename_i i hi
      split at h
      · rename_i k lo hi' hq
        rw [hq] at h2
        obtain ⟨j, hj, h3, h4⟩ := h2
        rw [hj]
        split at h
        · rename_i m l off hp
          rw [hp] at h1
          unfold aIdxP at h
          split at h
          · rename_i n es r ha
            split at h
            · rename_i hh
              cases h
              obtain rfl : j = lo := by omega
              exact idx_ok hc hw hi h1 ha hh.2.1 hh.2.2
            · cases h
          · cases h
        · rename_i m κ lw' hw' hp
          rw [hp] at h1
          unfold aIdxS at h
          split at h
          · rename_i hh
            cases h
            exact slidx_ok hc hw hi hh.1 h1 (by omega) (by omega)
          · cases h
        · rename_i κs lw' hw' hp
          rw [hp] at h1
          unfold aIdxO at h
          split at h
          · unfold aIdxS at h
            split at h
            · rename_i hh
              cases h
              exact slidx_ok hc hw hi hh.1 (OW.ss h1) (by omega) (by omega)
            · cases h
          · split at h
            · rename_i hh
              cases h
              exact owidx_ok hc hw hi hh.1 h1 (by omega) (by omega)
            · cases h
        · cases h
      · cases h
    · cases h
  case index t x y =>
    simp only [absC, absOp, aIndex] at h
    have h1 := hx x (by simp [Op.operands])
    have h2 := hx y (by simp [Op.operands])
    refine val (s := Instr.index t (a.eval x) (a.eval y)) rfl ?_
    split at h
    · rename_i i hi
      split at h
      · rename_i l hp
        rw [hp] at h1
        split at h
        · rename_i k lo hi' hq
          rw [hq] at h2
          split at h
          · rename_i n es r ha
            split at h
            · rename_i hh
              obtain ⟨j, hj, h3, h4⟩ := h2
              obtain rfl : j = lo := by omega
              rw [hj]
              exact index_ok hc hw hi h1 ha hh.2.1 hh.2.2 h
            · cases h
          · cases h
        · cases h
      · cases h
    · cases h
  case binOp op t x y t' =>
    obtain ⟨v, h1, h2⟩ := bin_ok hc (w := w) op t x y (hx x (by simp [Op.operands])) (hx y (by simp [Op.operands])) (by simpa [absC, absOp] using h)
    exact val (s := (do eqGuard op t x y (a.eval x) (a.eval y); binOp op t (a.eval x) (a.eval y))) rfl ⟨v, w, h1, .stay hw h2⟩
  case unOp op t x =>
    simp only [absC, absOp, aUn] at h
    have h1 := hx x (by simp [Op.operands])
    refine val (s := Op.unary op (a.eval x)) rfl ?_
    split at h
    · split at h
      · rename_i k lo hi hp
        rw [hp] at h1
        obtain ⟨n, hn, h3, h4⟩ := h1
        cases h
        rw [hn]
        refine ⟨_, w, rfl, .stay hw ?_⟩
        split
        · rename_i he
          obtain rfl : n = lo := by omega
          exact cst_ok σ k _
        · exact full_ok σ k _
      · cases h
    · split at h
      · rename_i k lo hi hp
        rw [hp] at h1
        obtain ⟨n, hn, h3, h4⟩ := h1
        cases h
        rw [hn]
        exact ⟨_, w, rfl, .stay hw (full_ok σ k _)⟩
      · cases h
    · split at h
      · rename_i b hp
        rw [hp] at h1
        have h1 : a.eval x = .bool b := h1
        cases h
        rw [h1]
        exact ⟨_, w, rfl, .stay hw rfl⟩
      · rename_i hp
        rw [hp] at h1
        obtain ⟨b, hb⟩ := h1
        cases h
        rw [hb]
        exact ⟨_, w, rfl, .stay hw ⟨_, rfl⟩⟩
      · cases h
    · cases h
  case convert t t' x =>
    simp only [absC, absOp, aConv] at h
    have h1 := hx x (by simp [Op.operands])
    refine val (s := convert t t' (a.eval x)) rfl ?_
    split at h
    · rename_i i0 hi0
      split at h
      · rename_i i hi'
        have cs : ∀ {m : Bool} {κ : Ab.K} {lo hi : Nat}, aConvS i0 i κ = some τ → SS σ (a.eval x) m κ lo hi → Yl c σ w (convert t t' (a.eval x)) τ := by
          intro m κ lo hi h hs
          unfold aConvS at h
          split at h
          · rename_i hh
            obtain ⟨hst, hsl, hz, rfl⟩ := hh
            cases h
            exact conv_ok hc hw hi0 hi' hst hsl hz hs
          · cases h
        split at h
        · rename_i k lo hi hp
          rw [hp] at h1
          obtain ⟨n, hn, h3, h4⟩ := h1
          rw [Option.map_eq_some_iff] at h
          obtain ⟨k', hk', rfl⟩ := h
          obtain ⟨_, _, d0, _, _, _, _, hu0, _⟩ := (hc.t hi0).info
          have hu := (hc.t hi').int k' hk'
          rw [hn]
          refine ⟨.int k' (k'.wrap n), w, ?_, .stay hw ?_⟩
          · simp [convert, run_underlying hu0, run_underlying hu, Conv.intToInt]
          · split
            · rename_i he
              rw [wrap_same k' n (by omega) (by omega)]
              exact ⟨n, rfl, h3, h4⟩
            · exact full_ok σ k' _
        · rename_i n hp
          rw [hp] at h1
          split at h
          · rename_i e; subst e; exact cs h (SL.ss h1)
          · cases h
        · rename_i m κ lo hi hp
          rw [hp] at h1
          exact cs h h1
        · rename_i κs lo hi hp
          rw [hp] at h1
          split at h
          · exact cs h (OW.ss h1)
          · cases h
        · cases h
      · cases h
    · cases h
  case extract x n =>
    simp only [absC, absOp, aExtract] at h
    have h1 := hx x (by simp [Op.operands])
    refine val (s := Instr.extract (a.eval x) n) rfl ?_
    split at h
    · rename_i t1 t2 hp
      rw [hp] at h1
      obtain ⟨u, v, e, hu, hv⟩ := h1
      split at h
      · cases h; rw [e]; exact ⟨u, w, rfl, .stay hw hu⟩
      · cases h; rw [e]; exact ⟨v, w, rfl, .stay hw hv⟩
      · cases h
    · rename_i t1 t2 t3 hp
      rw [hp] at h1
      obtain ⟨u, v, y, e, hu, hv, hy⟩ := h1
      split at h
      · cases h; rw [e]; exact ⟨u, w, rfl, .stay hw hu⟩
      · cases h; rw [e]; exact ⟨v, w, rfl, .stay hw hv⟩
      · cases h; rw [e]; exact ⟨y, w, rfl, .stay hw hy⟩
      · cases h
    · cases h
  case call k =>
    obtain ⟨callee, args, argTypes⟩ := k
    simp only [absC] at h
    unfold aCall at h
    split at h
    · split at h
      · rename_i f
        obtain ⟨τs, hsig, hsub⟩ := hc.s h
        have hargs : VTs σ (args.map a.eval).toList τs := by
          rw [Array.toList_map]
          exact subs_ok _ _ (fun x hm => hx x (by simp [Op.operands, Call.operands]; exact .inr (by simpa using hm))) hsub
        have he : (execOp a.eval { dst := dst, op := .call { callee := .value (.func f), args := args, argTypes := argTypes }, type := type, pos := pos, after := after, guard := guard }).run c.P w = (callFunc f (args.map a.eval)).run c.P w := by
          simp [execOp, resolve, Deferred.ofValue, Act.eval, invoke]
        rcases hsig σ w (args.map a.eval) hw hargs with ⟨v, w', hr, σ', g1, g2, g3⟩ | ⟨hr, hcall⟩
        · exact wp_of_value (he.trans hr) (hK v σ' w' g1 g2 g3)
        · unfold Oper.wp
          rw [he, hr]
          refine Calls.mono hcall (fun e w' hh => ?_)
          obtain ⟨v, rfl, σ', g1, g2, g3⟩ := hh
          exact hK v σ' w' g1 g2 g3
      · cases h
    · rename_i b
      split at h
      · rename_i x h1
        have ha : args = #[x] := by rw [← Array.toArray_toList (xs := args), h1]
        subst ha
        split at h
        · rename_i t h2
          have ht : argTypes = #[t] := by rw [← Array.toArray_toList (xs := argTypes), h2]
          subst ht
          unfold aLen at h
          split at h
          · rename_i i hi
            split at h
            · rename_i hsl
              obtain ⟨v, w', hr, hans⟩ := len_ok (ty := type) hc hw hi hsl (hx x (by simp [Op.operands, Call.operands])) h
              obtain ⟨σ', g1, g2, g3⟩ := hans
              refine wp_of_value (v := v) (w' := w') ?_ (hK v σ' w' g1 g2 g3)
              simp [execOp, resolve, invoke, builtin, hr]
            · cases h
          · cases h
        · cases h
      · rename_i x y h1
        have ha : args = #[x, y] := by rw [← Array.toArray_toList (xs := args), h1]
        subst ha
        have hvx := hx x (by simp [Op.operands, Call.operands])
        have hvy := hx y (by simp [Op.operands, Call.operands])
        split at h
        · unfold aMin at h
          split at h
          · rename_i k lo hi k' lo' hi' hp hq
            rw [hp] at hvx
            rw [hq] at hvy
            split at h
            · rename_i hk
              subst hk
              cases h
              obtain ⟨n, e1, g1, g2⟩ := hvx
              obtain ⟨m, e2, g3, g4⟩ := hvy
              refine wp_of_value (v := .int k (if m < n then m else n)) (w' := w) ?_ (hK _ σ w (Go1.refl _ _) hw ⟨_, rfl, by split <;> omega, by split <;> omega⟩)
              simp [execOp, resolve, invoke, builtin, e1, e2, run_min_int2]
            · cases h
          · cases h
        · rename_i t t' h2
          have ht : argTypes = #[t, t'] := by rw [← Array.toArray_toList (xs := argTypes), h2]
          subst ht
          unfold aCopy at h
          split at h
          · rename_i i lo hi' hi hp
            rw [hp] at hvx
            split at h
            · rename_i hh
              obtain ⟨hsl, hb, hsub⟩ := hh
              cases h
              obtain ⟨v, w', hr, hans⟩ := copy_ok (t' := t') (ty := type) hc hw hi hsl hvx (sub_ok _ _ hvy hsub) hb
              obtain ⟨σ', g1, g2, g3⟩ := hans
              refine wp_of_value (v := v) (w' := w') ?_ (hK v σ' w' g1 g2 g3)
              simp [execOp, resolve, invoke, builtin, hr]
            · cases h
          · cases h
        · rename_i t t' h2
          have ht : argTypes = #[t, t'] := by rw [← Array.toArray_toList (xs := argTypes), h2]
          subst ht
          unfold aAppend at h
          split at h
          · rename_i i hi
            split at h
            · rename_i κs lo' hi2 hs
              split at h
              · rename_i lo hi' hd
                split at h
                · rename_i hh
                  obtain ⟨rfl, hsl, hk0, hz, hb⟩ := hh
                  cases h
                  obtain ⟨v, w', hr, hans⟩ := append_ok (ty := type) hc hw hi hsl hk0 hz (dstK_ok hd hvx) (srcK_ok hs hvy) hb
                  obtain ⟨σ', g1, g2, g3⟩ := hans
                  refine wp_of_value (v := v) (w' := w') ?_ (hK v σ' w' g1 g2 g3)
                  simp [execOp, resolve, invoke, builtin, hr]
                · cases h
              · cases h
            · cases h
          · cases h
        · cases h
      · cases h
    · cases h
  all_goals (simp only [absC, absOp] at h; cases h)
end
end Ab
end Go.Proofs.YtmonkggoilhngaaGreatDoor
/- A reckoning with kinds: regions. Plain; no condition. -/
namespace Go.Proofs.YtmonkggoilhngaaGreatDoor
set_option linter.unusedVariables false
set_option linter.unusedSimpArgs false
open Go.RowKit
namespace Ab
set_option warn.classDefReducibility false
attribute [local instance 100000] decEqI decLeI decLtI
noncomputable def absG (c : Ctx) (Γ : Env) (o : Op) : Option T :=
  match o with
  | .pick x y z => match ty c.gt Γ x with
    | .cb true => some (ty c.gt Γ y)
    | .cb false => some (ty c.gt Γ z)
    | .bool => some (join (ty c.gt Γ y) (ty c.gt Γ z))
    | _ => none
  | o => absC c Γ o
noncomputable def seqT (c : Ctx) : List Oper → Env → Option (List T × Env)
  | [], Γ => some ([], Γ)
  | o :: r, Γ => match absG c Γ o.op with
    | none => none
    | some τ => putK Γ o.dst τ fun Γ' => match seqT c r Γ' with
      | none => none
      | some (τs, Γ') => some (τ :: τs, Γ')
def guarded (ops : List Oper) (j : Nat) : Bool := ops.any fun o => match o.guard with | some (g, _) => g == j | none => false
noncomputable def wantT (ops : List Oper) (Γ : Env) (o : Oper) : Option Bool :=
  match o.guard with
  | none => some true
  | some (g, b) => match (ops[g]?).bind (·.dst) with
    | some d => match Γ.at d with
      | some (.cb x) => some (x == b)
      | some .und => some false
      | _ => none
    | none => none
def flipB : BinOp → BinOp
  | .lss => .gtr
  | .gtr => .lss
  | .leq => .geq
  | .geq => .leq
  | op => op
def isCmp : BinOp → Bool
  | .lss | .gtr | .leq | .geq => true
  | _ => false
noncomputable def cmpS (c : Ctx) (Γ : Env) (o : Oper) : Option (Tmp × IntKind × Int × Int × BinOp × Int) :=
  match o.op with
  | .binOp op _ x y _ => if isCmp op then
      match x, y, ty c.gt Γ x, ty c.gt Γ y with
      | .tmp t, _, .int k lo hi, .int k' a b => if k = k' ∧ a = b then some (t, k, lo, hi, op, a) else
          match y with
          | .tmp t' => if k = k' ∧ lo = hi then some (t', k, a, b, flipB op, lo) else none
          | _ => none
      | _, .tmp t', .int k lo hi, .int k' a b => if k = k' ∧ lo = hi then some (t', k, a, b, flipB op, lo) else none
      | _, _, _, _ => none
    else none
  | _ => none
def rng (op : BinOp) (b : Bool) (lo hi n : Int) : Int × Int :=
  match op, b with
  | .lss, true => (lo, min hi (n - 1))
  | .lss, false => (max lo n, hi)
  | .leq, true => (lo, min hi n)
  | .leq, false => (max lo (n + 1), hi)
  | .gtr, true => (max lo (n + 1), hi)
  | .gtr, false => (lo, min hi n)
  | .geq, true => (max lo n, hi)
  | .geq, false => (lo, min hi (n - 1))
  | _, _ => (lo, hi)
noncomputable def refine1 (k : IntKind) (r : Int × Int) (Γ : Env) (t : Tmp) : Env := Γ.set t (.int k r.1 r.2)
noncomputable def refineA (k : IntKind) (r : Int × Int) (al : List (Tmp × Tmp)) (Γ : Env) (t : Tmp) : Env :=
  (al.filter fun x => x.1 == t).foldl (fun Γ x => refine1 k r Γ x.2) (refine1 k r Γ t)
def dropA (al : List (Tmp × Tmp)) : Option Tmp → List (Tmp × Tmp)
  | none => al
  | some d => al.filter fun x => x.1 != d && x.2 != d
def nextA (al : List (Tmp × Tmp)) (o : Oper) (n : Nat) : List (Tmp × Tmp) :=
  match o.op, o.dst with
  | .move (.tmp s), some d => if s ≠ d ∧ d < n then (d, s) :: dropA al o.dst else dropA al o.dst
  | _, _ => dropA al o.dst
def both {α : Type} : Option (List α) → Option (List α) → Option (List α)
  | some x, some y => some (x ++ y)
  | _, _ => none
noncomputable def listT (c : Ctx) (ops : List Oper) : List Oper → Nat → List (Tmp × Tmp) → Env → Option (List Env)
  | [], _, _, Γ => some [Γ]
  | o :: r, j, al, Γ => match wantT ops Γ o with
    | none => none
    | some false => putK Γ o.dst .und (listT c ops r (j + 1) (dropA al o.dst))
    | some true => match absC c Γ o.op with
      | none => none
      | some (.or a b) => both (putK Γ o.dst a (listT c ops r (j + 1) (dropA al o.dst))) (putK Γ o.dst b (listT c ops r (j + 1) (dropA al o.dst)))
      | some .bool => match cmpS c Γ o with
        | some (t, k, lo, hi, op, n) =>
          both ((refineA k (rng op true lo hi n) al Γ t).forceK fun Γ => putK Γ o.dst (.cb true) (listT c ops r (j + 1) (dropA al o.dst)))
            ((refineA k (rng op false lo hi n) al Γ t).forceK fun Γ => putK Γ o.dst (.cb false) (listT c ops r (j + 1) (dropA al o.dst)))
        | none => if guarded ops j then both (putK Γ o.dst (.cb true) (listT c ops r (j + 1) (dropA al o.dst))) (putK Γ o.dst (.cb false) (listT c ops r (j + 1) (dropA al o.dst)))
          else putK Γ o.dst .bool (listT c ops r (j + 1) (nextA al o Γ.length))
      | some τ => putK Γ o.dst τ (listT c ops r (j + 1) (nextA al o Γ.length))
section
variable {c : Ctx} {Q : Exit → Act → World → Prop}
theorem want_ok {ops : List Oper} {σ : S} {a : Act} {Γ : Env} (ht : Typed σ a Γ) {o : Oper} {b : Bool} (h : wantT ops Γ o = some b) : Region.wanted o (yielded ops.toArray a.tmps) = b := by
  unfold wantT at h
  unfold Region.wanted
  cases hg : o.guard with
  | none => simp only [hg] at h ⊢; cases h; rfl
  | some gb =>
    obtain ⟨g, b'⟩ := gb
    simp only [hg] at h ⊢
    cases hd : (ops[g]?).bind (·.dst) with
    | none => simp [hd] at h
    | some d =>
      simp only [hd] at h
      cases hΓ : Γ.at d with
      | none => simp [hΓ] at h
      | some τ =>
        simp only [hΓ] at h
        have hlt : d < a.tmps.size := Nat.lt_of_lt_of_le (Env.lt hΓ) ht.1
        have hd' : (ops.toArray[g]?).bind (·.dst) = some d := by simpa using hd
        have hv := ht.2.2 d _ hΓ
        have key : ∀ u, a.tmps.getD d undef = u → a.tmps[d]? = some u := fun u hu => by
          rw [Array.getD_eq_getD_getElem?, Array.getElem?_eq_getElem hlt] at hu
          rw [Array.getElem?_eq_getElem hlt]
          exact congrArg some hu
        cases τ <;> simp at h
        · rename_i x
          have he := key (.bool x) hv
          unfold yielded
          rw [hd']
          simp only [Option.bind_some, he]
          subst h
          cases x <;> cases b' <;> rfl
        · have he := key undef hv
          unfold yielded
          rw [hd']
          simp only [Option.bind_some, he]
          subst h
          rfl
def Same (a : Act) (al : List (Tmp × Tmp)) : Prop := ∀ x ∈ al, a.tmps.getD x.1 undef = a.tmps.getD x.2 undef
theorem getD_put {a : Act} {d t : Nat} {v : Value} (h : d ≠ t) : (a.put (some d) v).tmps.getD t undef = a.tmps.getD t undef := by
  show (a.tmps.setIfInBounds d v).getD t undef = _
  rw [Array.getD_eq_getD_getElem?, Array.getD_eq_getD_getElem?, Array.getElem?_setIfInBounds_ne h]
theorem Same.drop {a : Act} {al : List (Tmp × Tmp)} (h : Same a al) (d : Option Tmp) (v : Value) : Same (a.put d v) (dropA al d) := by
  cases d with
  | none => exact h
  | some d =>
    intro x hx
    unfold dropA at hx
    rw [List.mem_filter] at hx
    obtain ⟨hm, hb⟩ := hx
    simp only [Bool.and_eq_true, bne_iff_ne] at hb
    rw [getD_put (Ne.symm hb.1), getD_put (Ne.symm hb.2)]
    exact h x hm
theorem Same.next {a : Act} {al : List (Tmp × Tmp)} (h : Same a al) (o : Oper) (v : Value) {n : Nat} (hn : n ≤ a.tmps.size) (hv : ∀ s, o.op = .move (.tmp s) → v = a.tmps.getD s undef) : Same (a.put o.dst v) (nextA al o n) := by
  unfold nextA
  split
  · rename_i s d hop hd
    split
    · rename_i hh
      intro x hx
      rcases List.mem_cons.1 hx with rfl | hx
      · rw [hd]
        dsimp only
        have hv' := hv s hop
        rw [getD_put (Ne.symm hh.1)]
        have hdl : d < a.tmps.size := Nat.lt_of_lt_of_le hh.2 hn
        show (a.tmps.setIfInBounds d v).getD d undef = _
        rw [Array.getD_eq_getD_getElem?, Array.getElem?_setIfInBounds_self_of_lt hdl]
        exact hv'
      · exact h.drop o.dst v x hx
    · exact h.drop o.dst v
  · exact h.drop o.dst v
theorem Typed.set {σ : S} {a : Act} {Γ : Env} (ht : Typed σ a Γ) {t : Nat} {τ : T} (hv : VT σ (a.tmps.getD t undef) τ) : Typed σ a (Γ.set t τ) := by
  refine ⟨ht.1, ht.2.1, fun t' τ' h => ?_⟩
  by_cases e : t = t'
  · subst e
    have hlt : t < Γ.length := Env.lt (Γ := Γ.set t τ) h
    rw [Env.set_self hlt] at h
    cases h
    exact hv
  · rw [Env.set_ne e] at h
    exact ht.2.2 t' τ' h
theorem refineA_ok {σ : S} {a : Act} {Γ : Env} {al : List (Tmp × Tmp)} (ht : Typed σ a Γ) (hs : Same a al) {t : Tmp} {k : IntKind} {r : Int × Int} {m : Int} (hv : a.tmps.getD t undef = .int k m) (h1 : r.1 ≤ m) (h2 : m ≤ r.2) : Typed σ a (refineA k r al Γ t) := by
  unfold refineA
  have base : Typed σ a (refine1 k r Γ t) := ht.set ⟨m, hv, h1, h2⟩
  have key : ∀ (l : List (Tmp × Tmp)) (Γ : Env), (∀ x ∈ l, a.tmps.getD x.2 undef = .int k m) → Typed σ a Γ → Typed σ a (l.foldl (fun Γ x => refine1 k r Γ x.2) Γ) := by
    intro l
    induction l with
    | nil => intro Γ _ h; exact h
    | cons x l ih => intro Γ hx h; exact ih _ (fun y hy => hx y (List.mem_cons_of_mem _ hy)) (h.set ⟨m, hx x (List.mem_cons_self ..), h1, h2⟩)
  refine key _ _ (fun x hx => ?_) base
  rw [List.mem_filter] at hx
  have he : x.1 = t := by simpa using hx.2
  rw [← hs x hx.1, he, hv]
def cmpV : BinOp → Int → Int → Bool
  | .lss, x, y => decide (x < y)
  | .leq, x, y => decide (x ≤ y)
  | .gtr, x, y => decide (x > y)
  | .geq, x, y => decide (x ≥ y)
  | _, _, _ => false
theorem cmp_run {P : Program} {w : World} {op : BinOp} (h : isCmp op = true) (t : TypeId) (ox oy : Operand) (k : IntKind) (x y : Int) : ((do eqGuard op t ox oy (.int k x) (.int k y); binOp op t (.int k x) (.int k y) : Sem Value)).run P w = .ok (.bool (cmpV op x y)) w := by
  cases op <;> simp [isCmp] at h <;> simp [eqGuard, binOp, Op.intCmp, cmpV]
theorem flip_v {op : BinOp} (h : isCmp op = true) (x y : Int) : cmpV op x y = cmpV (flipB op) y x ∧ isCmp (flipB op) = true := by
  cases op <;> simp [isCmp] at h <;> simp [cmpV, flipB, isCmp]
theorem rng_ok {op : BinOp} (hop : isCmp op = true) {lo hi m n : Int} (h1 : lo ≤ m) (h2 : m ≤ hi) {b : Bool} (hb : cmpV op m n = b) : (rng op b lo hi n).1 ≤ m ∧ m ≤ (rng op b lo hi n).2 := by
  cases op <;> simp [isCmp] at hop <;> cases b <;> simp [cmpV] at hb <;> simp only [rng] <;> omega
theorem cmpS_ok (hc : c.Ok) {σ : S} {a : Act} {w : World} {Γ : Env} (hw : WT c.gt σ w) (ht : Typed σ a Γ) {o : Oper} {t : Tmp} {k : IntKind} {lo hi n : Int} {op : BinOp} (h : cmpS c Γ o = some (t, k, lo, hi, op, n)) :
    ∃ m, a.tmps.getD t undef = .int k m ∧ lo ≤ m ∧ m ≤ hi ∧ isCmp op = true ∧ (execOp a.eval o).run c.P w = .ok (.value (.bool (cmpV op m n))) w := by
  obtain ⟨dst, oo, type, pos, after, guard⟩ := o
  cases oo <;> simp only [cmpS] at h
  case binOp op' ty' x y ty2 =>
    split at h
    · rename_i hcmp
      have hrun : ∀ k x' y', a.eval x = .int k x' → a.eval y = .int k y' → (execOp a.eval { dst := dst, op := .binOp op' ty' x y ty2, type := type, pos := pos, after := after, guard := guard }).run c.P w = .ok (.value (.bool (cmpV op' x' y'))) w := by
        intro k x' y' hx hy
        refine run_v (s := (do eqGuard op' ty' x y (a.eval x) (a.eval y); binOp op' ty' (a.eval x) (a.eval y))) ?_
        rw [hx, hy]
        exact cmp_run hcmp ty' x y k x' y'
      have hx := ty_ok hw ht x
      have hy := ty_ok hw ht y
      split at h
      · rename_i t0 k0 lo0 hi0 k1 a1 b1 e1 e2
        rw [e1] at hx
        rw [e2] at hy
        obtain ⟨p, hp, p1, p2⟩ := hx
        obtain ⟨q, hq, q1, q2⟩ := hy
        split at h
        · rename_i hh
          obtain ⟨rfl, rfl⟩ := hh
          cases h
          obtain rfl : q = n := by omega
          exact ⟨p, hp, p1, p2, hcmp, hrun _ _ _ hp hq⟩
        · split at h
          · rename_i t1
            split at h
            · rename_i hh
              obtain ⟨rfl, rfl⟩ := hh
              cases h
              obtain rfl : p = n := by omega
              have := flip_v hcmp p q
              exact ⟨q, hq, q1, q2, this.2, by rw [← this.1]; exact hrun _ _ _ hp hq⟩
            · cases h
          · cases h
      · rename_i t1 k0 lo0 hi0 k1 a1 b1 _ e1 e2
        rw [e1] at hx
        rw [e2] at hy
        obtain ⟨p, hp, p1, p2⟩ := hx
        obtain ⟨q, hq, q1, q2⟩ := hy
        split at h
        · rename_i hh
          obtain ⟨rfl, rfl⟩ := hh
          cases h
          obtain rfl : p = n := by omega
          have := flip_v hcmp p q
          exact ⟨q, hq, q1, q2, this.2, by rw [← this.1]; exact hrun _ _ _ hp hq⟩
        · cases h
      · cases h
    · cases h
  all_goals cases h
theorem both_ok {α : Type} {x y : Option (List α)} {l : List α} (h : both x y = some l) : ∃ p q, x = some p ∧ y = some q ∧ l = p ++ q := by
  cases x with
  | none => simp [both] at h
  | some p => cases y with
    | none => simp [both] at h
    | some q => simp [both] at h; exact ⟨p, q, rfl, rfl, h.symm⟩
theorem list_ok (hc : c.Ok) (ops : List Oper) : ∀ (l : List Oper) (j : Nat) (al : List (Tmp × Tmp)) (Γ : Env) (Γs : List Env) (σ : S) (a : Act) (w : World), listT c ops l j al Γ = some Γs → WT c.gt σ w → Typed σ a Γ → Same a al →
    (∀ σ' a' w', Go1 σ σ' w w' → WT c.gt σ' w' → (∃ Γ' ∈ Γs, Typed σ' a' Γ') → Q .normal a' w') → wpList c.P ops.toArray Q l a w
  | [], j, al, Γ, Γs, σ, a, w, h, hw, ht, hs, hQ => by
    cases h
    exact hQ σ a w (Go1.refl _ _) hw ⟨Γ, by simp, ht⟩
  | o :: r, j, al, Γ, Γs, σ, a, w, h, hw, ht, hs, hQ => by
    unfold listT at h
    simp only [putK_eq, Env.forceK_eq] at h
    unfold wpList
    cases hb : wantT ops Γ o with
    | none => simp [hb] at h
    | some b =>
      rw [want_ok ht hb]
      cases b with
      | false =>
        simp only [hb] at h
        simp only [Bool.false_eq_true, if_false]
        exact list_ok hc ops r (j + 1) _ _ Γs σ _ w h hw (ht.put (τ := .und) rfl) (hs.drop o.dst undef) hQ
      | true =>
        simp only [hb] at h
        simp only [if_true]
        cases hτ : absC c Γ o.op with
        | none => simp [hτ] at h
        | some τ =>
          simp only [hτ] at h
          have op := @op_ok c σ w a Γ hc hw o (fun x _ => ty_ok hw ht x) τ hτ
          have next : ∀ (σ' : S) (w' : World) (v : Value) τ' Γ0 Γs' al', Go1 σ σ' w w' → WT c.gt σ' w' → Typed σ a Γ0 → VT σ' v τ' → Same (a.put o.dst v) al' → listT c ops r (j + 1) al' (putT Γ0 o.dst τ') = some Γs' → (∀ x ∈ Γs', x ∈ Γs) → wpList c.P ops.toArray Q r (a.put o.dst v) w' := by
            intro σ' w' v τ' Γ0 Γs' al' g1 g2 ht0 hv hsm hl hsub
            refine list_ok hc ops r (j + 1) al' _ Γs' σ' _ w' hl g2 ((ht0.mono (g1.le hw)).put hv) hsm (fun σ2 a2 w2 h1 h2 h3 => hQ σ2 a2 w2 (g1.trans h1) h2 ?_)
            obtain ⟨Γ', hm, hh⟩ := h3
            exact ⟨Γ', hsub _ hm, hh⟩
          have moved : ∀ (v : Value) (w' : World), (execOp a.eval o).run c.P w = .ok (.value v) w' → ∀ s, o.op = .move (.tmp s) → v = a.tmps.getD s undef := by
            intro v w' hr s hop
            have : (execOp a.eval o).run c.P w = .ok (.value (a.tmps.getD s undef)) w := by
              obtain ⟨dst, oo, type, pos, after, guard⟩ := o
              dsimp only at hop
              subst hop
              rfl
            rw [this] at hr
            cases hr
            rfl
          have plain : listT c ops r (j + 1) (nextA al o Γ.length) (putT Γ o.dst τ) = some Γs → o.wp c.P a w (wpList c.P ops.toArray Q r) Q := by
            intro hl
            by_cases hmv : ∃ s, o.op = .move (.tmp s)
            · obtain ⟨s, hop⟩ := hmv
              have hr : (execOp a.eval o).run c.P w = .ok (.value (a.tmps.getD s undef)) w := by
                obtain ⟨dst, oo, type, pos, after, guard⟩ := o
                dsimp only at hop
                subst hop
                rfl
              have hτ' : VT σ (a.tmps.getD s undef) τ := by
                have h1 := ty_ok hw ht (.tmp s)
                have h2 : absC c Γ o.op = some (ty c.gt Γ (.tmp s)) := by
                  obtain ⟨dst, oo, type, pos, after, guard⟩ := o
                  dsimp only at hop
                  subst hop
                  rfl
                rw [hτ] at h2
                cases h2
                exact h1
              exact wp_of_value hr (next σ w _ τ Γ Γs _ (Go1.refl _ _) hw ht hτ' (hs.next o _ ht.1 (fun s' hs' => by rw [hop] at hs'; cases hs'; rfl)) hl (fun _ h => h))
            · exact op (fun v σ' w' g1 g2 g3 => next σ' w' v τ Γ Γs _ g1 g2 ht g3 (hs.next o v ht.1 (fun s hs' => absurd ⟨s, hs'⟩ hmv)) hl (fun _ h => h))
          split at h
          · cases h
          · rename_i a1 b1 heq
            cases heq
            obtain ⟨p, q, e1, e2, rfl⟩ := both_ok h
            refine .inl (op (fun v σ' w' g1 g2 g3 => ?_))
            rcases g3 with g3 | g3
            · exact next σ' w' v a1 Γ p _ g1 g2 ht g3 (hs.drop o.dst v) e1 (fun x hx => List.mem_append_left _ hx)
            · exact next σ' w' v b1 Γ q _ g1 g2 ht g3 (hs.drop o.dst v) e2 (fun x hx => List.mem_append_right _ hx)
          · rename_i heq
            cases heq
            split at h
            · rename_i t k lo hi op' n hcs
              obtain ⟨p, q, e1, e2, rfl⟩ := both_ok h
              obtain ⟨m, hm, m1, m2, hop, hr⟩ := cmpS_ok hc hw ht hcs
              refine .inl (wp_of_value hr ?_)
              cases hv : cmpV op' m n with
              | true =>
                have := rng_ok hop m1 m2 hv
                exact next σ w (.bool true) (.cb true) _ p _ (Go1.refl _ _) hw (refineA_ok ht hs hm this.1 this.2) rfl (hs.drop o.dst _) e1 (fun x hx => List.mem_append_left _ hx)
              | false =>
                have := rng_ok hop m1 m2 hv
                exact next σ w (.bool false) (.cb false) _ q _ (Go1.refl _ _) hw (refineA_ok ht hs hm this.1 this.2) rfl (hs.drop o.dst _) e2 (fun x hx => List.mem_append_right _ hx)
            · split at h
              · obtain ⟨p, q, e1, e2, rfl⟩ := both_ok h
                refine .inl (op (fun v σ' w' g1 g2 g3 => ?_))
                obtain ⟨b, rfl⟩ := g3
                cases b with
                | true => exact next σ' w' _ (.cb true) Γ p _ g1 g2 ht rfl (hs.drop o.dst _) e1 (fun x hx => List.mem_append_left _ hx)
                | false => exact next σ' w' _ (.cb false) Γ q _ g1 g2 ht rfl (hs.drop o.dst _) e2 (fun x hx => List.mem_append_right _ hx)
              · exact .inl (plain h)
          · rename_i τ' _ _ heq
            cases heq
            exact .inl (plain h)
end
/-! A region that draws its order. -/
def slots (o : Oper) : List Tmp := o.op.operands.toList.filterMap fun | .tmp t => some t | _ => none
def dst (l : List Oper) (j : Nat) : Option Tmp := (l[j]?).bind (·.dst)
def isTmp (t : Tmp) : Operand → Bool
  | .tmp t' => t' == t
  | _ => false
def guardB (M : List Nat) (j : Nat) (o : Oper) : Bool := match o.guard with
  | none => true
  | some (g, _) => decide (g < j) && (M.getD j 0).testBit g
def pickB (l : List Oper) (t : Tmp) (oi : Oper) : Op → Bool
  | .pick (.tmp x) y z => match oi.guard with
    | some (g, b) => dst l g == some x && x != t && !(isTmp t (if b then z else y))
    | none => false
  | _ => false
def sameG (l : List Oper) (o : Oper) (t : Tmp) (oi : Oper) : Bool := oi.guard.isNone || oi.guard == o.guard || pickB l t oi o.op
def orderB (l : List Oper) (M : List Nat) (n : Nat) : Bool :=
  (l.zipIdx.all fun (o, j) => guardB M j o && (o.after.toList.all fun e => !Region.binds .any e || decide (e.on < j)) &&
    (match o.dst with | some d => decide (d < n) && (l.zipIdx.all fun (o', i) => i == j || o'.dst != some d) | none => true) &&
    (slots o).all fun t => l.zipIdx.all fun (o', i) => o'.dst != some t || i == j || (if i < j then (M.getD j 0).testBit i && sameG l o t o' else (M.getD i 0).testBit j))
noncomputable def clearG (l : List Oper) (Γ : Env) : Env := match l with
  | [] => Γ
  | o :: r => clearG r (if o.guard.isSome then putT Γ o.dst .any else Γ)
def hiD (l : List Oper) : Nat := l.foldl (fun m o => match o.dst with | some d => max m (d + 1) | none => m) 0
def orderC (l : List Oper) : Bool := orderB l (Rc.masks .any l []) (hiD l)
noncomputable def drawT (c : Ctx) (l : List Oper) (Γ : Env) : Option Env :=
  if orderC l = true ∧ hiD l ≤ Γ.length then (seqT c l Γ).map (fun x => clearG l x.2) else none
def At (l : List Oper) (τs : List T) (Γ : Env) (n : Nat) (Γn : Env) : Prop :=
  Γn.length = Γ.length ∧ ∀ t : Nat, t < Γ.length → (∃ i τ, i < n ∧ dst l i = some t ∧ τs[i]? = some τ ∧ Γn.at t = some τ) ∨ ((∀ i, i < n → dst l i ≠ some t) ∧ Γn.at t = Γ.at t)
theorem putT_length (Γ : Env) (d : Option Tmp) (τ : T) : (putT Γ d τ).length = Γ.length := by cases d <;> rfl
theorem seqT_at {c : Ctx} : ∀ (l : List Oper) (Γ Γe : Env) (τs : List T), seqT c l Γ = some (τs, Γe) → (∀ i j, i ≠ j → ∀ d, dst l i = some d → dst l j ≠ some d) →
    At l τs Γ l.length Γe ∧ ∀ (j : Nat) (o : Oper), l[j]? = some o → ∃ τ Γj, τs[j]? = some τ ∧ absG c Γj o.op = some τ ∧ At l τs Γ j Γj
  | [], Γ, Γe, τs, h, _ => by
    cases h
    exact ⟨⟨rfl, fun t _ => .inr ⟨fun i hi => by simp at hi, rfl⟩⟩, fun j o hj => by simp at hj⟩
  | o :: r, Γ, Γe, τs, h, hd => by
    unfold seqT at h
    simp only [putK_eq] at h
    cases hτ : absG c Γ o.op with
    | none => simp [hτ] at h
    | some τ =>
      simp only [hτ] at h
      cases hr : seqT c r (putT Γ o.dst τ) with
      | none => simp [hr] at h
      | some x =>
        obtain ⟨τs', Γ'⟩ := x
        simp only [hr] at h
        cases h
        have ih := seqT_at r (putT Γ o.dst τ) Γe τs' hr (fun i j hij d hdi => by simpa [dst] using hd (i + 1) (j + 1) (by omega) d (by simpa [dst] using hdi))
        have lift : ∀ n Γn, At r τs' (putT Γ o.dst τ) n Γn → At (o :: r) (τ :: τs') Γ (n + 1) Γn := by
          intro n Γn ⟨h1, h2⟩
          refine ⟨h1.trans (putT_length ..), fun t htl => ?_⟩
          rcases h2 t (by rw [putT_length]; exact htl) with ⟨i, τ1, hi, h3, h4, h5⟩ | ⟨h3, h4⟩
          · exact .inl ⟨i + 1, τ1, by omega, by simpa [dst] using h3, by simpa using h4, h5⟩
          · by_cases ho : o.dst = some t
            · refine .inl ⟨0, τ, by omega, by simpa [dst] using ho, rfl, ?_⟩
              rw [h4, ho]
              exact Env.set_self htl
            · refine .inr ⟨fun i hi => ?_, ?_⟩
              · cases i with
                | zero => simpa [dst] using ho
                | succ i => simpa [dst] using h3 i (by omega)
              · rw [h4]
                cases hod : o.dst with
                | none => rfl
                | some d =>
                  exact Env.set_ne (fun e => ho (by rw [hod, e]))
        refine ⟨lift _ _ ih.1, fun j o' hj => ?_⟩
        cases j with
        | zero =>
          simp at hj
          subst hj
          exact ⟨τ, Γ, rfl, hτ, rfl, fun t _ => .inr ⟨fun i hi => by omega, rfl⟩⟩
        | succ j =>
          obtain ⟨τ1, Γj, h1, h2, h3⟩ := ih.2 j o' (by simpa using hj)
          exact ⟨τ1, Γj, by simpa using h1, h2, lift _ _ h3⟩
structure Inv (c : Ctx) (l : List Oper) (τs : List T) (Γ : Env) (σ0 : S) (w0 : World) (listed : Array Bool) (a : Act) (w : World) (σ : S) : Prop where
  go : Go1 σ0 σ w0 w
  wt : WT c.gt σ w
  len : Γ.length ≤ a.tmps.size
  defers : a.defers = []
  head : HeadInv .any l.toArray l.length listed
  done : ∀ j t τ o, listed.getD j false = true → dst l j = some t → τs[j]? = some τ → l[j]? = some o → Region.wanted o (yielded l.toArray a.tmps) = true → VT σ (a.tmps.getD t undef) τ
  old : ∀ (t : Nat) (τ : T), (∀ j, listed.getD j false = true → dst l j ≠ some t) → Γ.at t = some τ → VT σ (a.tmps.getD t undef) τ
theorem tmps_put {a : Act} {d : Option Tmp} {v : Value} {t : Nat} (h : d ≠ some t) : (a.put d v).tmps.getD t undef = a.tmps.getD t undef := by
  cases d with
  | none => rfl
  | some d =>
    show (a.tmps.setIfInBounds d v).getD t undef = _
    rw [Array.getD_eq_getD_getElem?, Array.getD_eq_getD_getElem?, Array.getElem?_setIfInBounds_ne (fun e => h (by rw [e]))]
theorem tmps_put_self {a : Act} {d : Nat} {v : Value} (h : d < a.tmps.size) : (a.put (some d) v).tmps.getD d undef = v := by
  show (a.tmps.setIfInBounds d v).getD d undef = v
  rw [Array.getD_eq_getD_getElem?, Array.getElem?_setIfInBounds_self_of_lt h]
  rfl
structure Ord (l : List Oper) (n : Nat) : Prop where
  guard : ∀ (j : Nat) (o : Oper) (g : Nat) (b : Bool), l[j]? = some o → o.guard = some (g, b) → Rc.Anc .any l.toArray g j
  edge : ∀ (j : Nat) (o : Oper), l[j]? = some o → ∀ e ∈ o.after, Region.binds .any e = true → e.on < j
  dlt : ∀ j d, dst l j = some d → d < n
  dne : ∀ i j, i ≠ j → ∀ d, dst l i = some d → dst l j ≠ some d
  look : ∀ (j : Nat) (o : Oper) (t : Nat), l[j]? = some o → t ∈ slots o → ∀ i, dst l i = some t → i = j ∨ (i < j ∧ Rc.Anc .any l.toArray i j ∧ ∀ oi, l[i]? = some oi → sameG l o t oi = true) ∨ (j < i ∧ Rc.Anc .any l.toArray j i)
theorem orderB_ok {l : List Oper} {n : Nat} (h : orderB l (Rc.masks .any l []) n = true) : Ord l n := by
  have hM : ∀ j i, ((Rc.masks .any l []).getD j 0).testBit i = true → Rc.Anc .any l.toArray i j :=
    Rc.masks_anc _ [] (fun t ht => by simp) (fun j i hj => by simp at hj)
  generalize Rc.masks .any l [] = M at *
  unfold orderB at h
  rw [List.all_eq_true] at h
  have each : ∀ (j : Nat) (o : Oper), l[j]? = some o → _ := fun j o hj => h (o, j) (by rw [List.mk_mem_zipIdx_iff_getElem?]; exact hj)
  simp only [Bool.and_eq_true] at each
  have dj : ∀ j d, dst l j = some d → ∃ o, l[j]? = some o ∧ o.dst = some d := fun j d hd => by
    unfold dst at hd
    cases ho : l[j]? with
    | none => simp [ho] at hd
    | some o => exact ⟨o, rfl, by simpa [ho] using hd⟩
  refine ⟨fun j o g b hj hg => ?_, fun j o hj e he hb => ?_, fun j d hd => ?_, fun i j hij d hi hj => ?_, fun j o t hj ht i hi => ?_⟩
  · have := (each j o hj).1.1.1
    unfold guardB at this
    rw [hg] at this
    simp only [Bool.and_eq_true, decide_eq_true_eq] at this
    exact hM _ _ this.2
  · have := List.all_eq_true.1 (each j o hj).1.1.2 e (by simpa using he)
    simpa [hb] using this
  · obtain ⟨o, ho, hod⟩ := dj j d hd
    have := (each j o ho).1.2
    simp only [hod, Bool.and_eq_true, decide_eq_true_eq] at this
    exact this.1
  · obtain ⟨o, ho, hod⟩ := dj i d hi
    obtain ⟨o', ho', hod'⟩ := dj j d hj
    have := (each i o ho).1.2
    simp only [hod, Bool.and_eq_true, decide_eq_true_eq] at this
    have h2 := List.all_eq_true.1 this.2 (o', j) (by rw [List.mk_mem_zipIdx_iff_getElem?]; exact ho')
    simp only [Bool.or_eq_true, beq_iff_eq, bne_iff_ne] at h2
    rcases h2 with e | e
    · exact hij e.symm
    · exact e hod'
  · obtain ⟨o', ho', hod'⟩ := dj i t hi
    have h1 := List.all_eq_true.1 (each j o hj).2 t ht
    have h2 := List.all_eq_true.1 h1 (o', i) (by rw [List.mk_mem_zipIdx_iff_getElem?]; exact ho')
    simp only [Bool.or_eq_true, beq_iff_eq, bne_iff_ne] at h2
    rcases h2 with (e | e) | e
    · exact absurd hod' e
    · exact .inl e
    · by_cases hlt : i < j
      · rw [if_pos hlt, Bool.and_eq_true] at e
        refine .inr (.inl ⟨hlt, hM _ _ e.1, fun oi hoi => ?_⟩)
        rw [ho'] at hoi
        cases hoi
        exact e.2
      · rw [if_neg hlt] at e
        by_cases hij : i = j
        · exact .inl hij
        · exact .inr (.inr ⟨by omega, hM _ _ e⟩)
theorem mem_slots {o : Oper} {t : Nat} (h : Operand.tmp t ∈ o.op.operands) : t ∈ slots o := by
  unfold slots
  rw [List.mem_filterMap]
  exact ⟨.tmp t, by simpa using h, rfl⟩
theorem ty_op {gt : Gt} {σ : S} {w : World} {a : Act} {Γ : Env} (hw : WT gt σ w) (x : Operand) (h : ∀ t τ, x = .tmp t → Γ.at t = some τ → VT σ (a.tmps.getD t undef) τ) : VT σ (a.eval x) (ty gt Γ x) := by
  unfold ty
  split
  · rename_i t
    cases h' : Γ.at t with
    | none => exact trivial
    | some τ => exact h t τ rfl h'
  · exact ⟨_, rfl, Int.le_refl _, Int.le_refl _⟩
  · exact rfl
  · exact rfl
  · exact rfl
  · rename_i g
    split
    · rename_i l hl
      exact ⟨g, false, rfl, hw.tab g l (gOf_mem hl), fun h => nomatch h⟩
    · exact trivial
  · exact trivial
theorem clearG_length : ∀ (l : List Oper) (Γ : Env), (clearG l Γ).length = Γ.length
  | [], _ => rfl
  | o :: r, Γ => by
    unfold clearG
    rw [clearG_length r]
    split
    · exact putT_length ..
    · rfl
theorem clearG_at : ∀ (l : List Oper) (Γ : Env) {t : Nat} {τ : T}, (clearG l Γ).at t = some τ → τ = .any ∨ (Γ.at t = some τ ∧ ∀ (j : Nat) (o : Oper), l[j]? = some o → o.dst = some t → o.guard = none)
  | [], Γ, t, τ, h => .inr ⟨h, fun j o hj => by simp at hj⟩
  | o :: r, Γ, t, τ, h => by
    unfold clearG at h
    rcases clearG_at r _ h with e | ⟨e1, e2⟩
    · exact .inl e
    · by_cases hg : o.guard.isSome = true
      · rw [if_pos hg] at e1
        by_cases hd : o.dst = some t
        · rw [hd] at e1
          have hlt := Env.lt e1
          have e1 : (Γ.set t .any).at t = some τ := e1
          rw [Env.set_self (show t < Γ.length from hlt)] at e1
          exact .inl (Option.some.inj e1).symm
        · refine .inr ⟨?_, fun j o' hj hd' => ?_⟩
          · cases hod : o.dst with
            | none => rw [hod] at e1; exact e1
            | some d =>
              rw [hod] at e1
              have e1 : (Γ.set d .any).at t = some τ := e1
              rwa [Env.set_ne (fun e => hd (by rw [hod, e]))] at e1
          · cases j with
            | zero => simp at hj; subst hj; exact absurd hd' hd
            | succ j => exact e2 j o' (by simpa using hj) hd'
      · rw [if_neg hg] at e1
        refine .inr ⟨e1, fun j o' hj hd' => ?_⟩
        cases j with
        | zero => simp at hj; subst hj; simpa using hg
        | succ j => exact e2 j o' (by simpa using hj) hd'
theorem wanted_none {o : Oper} (h : o.guard = none) (f : Nat → Option Bool) : Region.wanted o f = true := by unfold Region.wanted; rw [h]
theorem yielded_put {l : List Oper} {a : Act} {d : Option Tmp} {v : Value} {g : Nat} (h : ∀ t, dst l g = some t → d ≠ some t) : yielded l.toArray (a.put d v).tmps g = yielded l.toArray a.tmps g := by
  have e : (l.toArray[g]?).bind (·.dst) = dst l g := by simp [dst]
  unfold yielded
  rw [e]
  cases ht : dst l g with
  | none => rfl
  | some t =>
    have hne := h t ht
    have e2 : (a.put d v).tmps[t]? = a.tmps[t]? := by
      cases d with
      | none => rfl
      | some d =>
        show (a.tmps.setIfInBounds d v)[t]? = _
        exact Array.getElem?_setIfInBounds_ne (fun e => hne (by rw [e]))
    simp only [Option.bind_some, e2]
theorem wanted_put {l : List Oper} {a : Act} {d : Option Tmp} {v : Value} {o : Oper} (h : ∀ g b, o.guard = some (g, b) → ∀ t, dst l g = some t → d ≠ some t) : Region.wanted o (yielded l.toArray (a.put d v).tmps) = Region.wanted o (yielded l.toArray a.tmps) := by
  unfold Region.wanted
  cases hg : o.guard with
  | none => rfl
  | some x =>
    obtain ⟨g, b⟩ := x
    dsimp only
    rw [yielded_put (h g b hg)]
theorem yielded_at {l : List Oper} {a : Act} {g : Nat} {x : Tmp} {b : Bool} (hg : dst l g = some x) (hx : a.eval (.tmp x) = .bool b) : yielded l.toArray a.tmps g = some b := by
  have e : (l.toArray[g]?).bind (·.dst) = dst l g := by simp [dst]
  unfold yielded
  rw [e, hg]
  have hx : a.tmps.getD x undef = .bool b := hx
  rw [Array.getD_eq_getD_getElem?] at hx
  cases ht : a.tmps[x]? with
  | none => rw [ht] at hx; cases hx
  | some v =>
    rw [ht] at hx
    have hx : v = .bool b := hx
    simp only [Option.bind_some, ht, hx]
theorem any_ok {c : Ctx} (hc : c.Ok) {Q : Exit → Act → World → Prop} {l : List Oper} {Γ Γe : Env} {τs : List T} (hs : seqT c l Γ = some (τs, Γe)) (ho : Ord l Γ.length) {σ0 : S} {w0 : World}
    (hQ : ∀ σ a w, Go1 σ0 σ w0 w → WT c.gt σ w → Typed σ a (clearG l Γe) → Q .normal a w) :
    ∀ (f : Nat) (listed : Array Bool) (a : Act) (w : World) (σ : S), Inv c l τs Γ σ0 w0 listed a w σ → Rc.cnt listed l.length = f → wpAny c.P .any l.toArray Q f listed a w := by
  have hat := seqT_at l Γ Γe τs hs ho.dne
  have fin : ∀ (listed : Array Bool) (a : Act) (w : World) (σ : S), Inv c l τs Γ σ0 w0 listed a w σ → (∀ i, i < l.length → listed.getD i false = true) → Q .normal a w := by
    intro listed a w σ inv hall
    refine hQ σ a w inv.go inv.wt ⟨Nat.le_trans (Nat.le_of_eq ((clearG_length ..).trans hat.1.1)) inv.len, inv.defers, fun t τ ht => ?_⟩
    rcases clearG_at l Γe ht with rfl | ⟨ht, hgn⟩
    · exact trivial
    have htl : t < Γ.length := by rw [← hat.1.1]; exact Env.lt ht
    rcases hat.1.2 t htl with ⟨i, τ1, hi, h1, h2, h3⟩ | ⟨h1, h2⟩
    · rw [ht] at h3
      cases h3
      have hoi : l[i]? = some (l[i]'hi) := List.getElem?_eq_getElem hi
      refine inv.done i t τ _ (hall i hi) h1 h2 hoi (wanted_none (hgn i _ hoi ?_) _)
      unfold dst at h1
      rw [hoi] at h1
      exact h1
    · refine inv.old t τ (fun j _ => ?_) (by rw [← h2]; exact ht)
      rcases Nat.lt_or_ge j l.length with hj | hj
      · exact h1 j hj
      · unfold dst
        rw [List.getElem?_eq_none hj]
        simp
  have nready : ∀ (listed : Array Bool) (a : Act) (w : World) (σ : S), Inv c l τs Γ σ0 w0 listed a w σ → Region.ready .any l.toArray listed = [] → ∀ i, i < l.length → listed.getD i false = true := by
    intro listed a w σ inv hr i
    induction i using Nat.strongRecOn with
    | _ i ih =>
      intro hi
      cases hl : listed.getD i false with
      | true => rfl
      | false =>
        exfalso
        have : i ∈ Region.ready .any l.toArray listed := by
          rw [mem_ready]
          have hsz : i < listed.size := by rw [inv.head.size]; simpa using hi
          refine ⟨getD_in hsz hl, l[i], by simp [hi], fun e he hb => ?_⟩
          have := ho.edge i l[i] (List.getElem?_eq_getElem hi) e he hb
          exact ih e.on this (by omega)
        rw [hr] at this
        cases this
  intro f
  induction f with
  | zero =>
    intro listed a w σ inv hcnt
    have hall := Rc.cnt_zero l.length hcnt
    refine ⟨?_, fin listed a w σ inv hall⟩
    rw [List.eq_nil_iff_forall_not_mem]
    intro i hi
    obtain ⟨h1, o, h2, _⟩ := mem_ready.1 hi
    have hlt : i < l.length := by have := (Array.getElem?_eq_some_iff.1 h2).1; simpa using this
    have := hall i hlt
    rw [getD_both h1] at this
    cases this
  | succ f ih =>
    intro listed a w σ inv hcnt
    refine ⟨fun hr => fin listed a w σ inv (nready listed a w σ inv hr), fun j hj => ?_⟩
    obtain ⟨hun, o, hoj', hdeps⟩ := mem_ready.1 hj
    have hoj : l[j]? = some o := by simpa using hoj'
    have hjl : j < l.length := (List.getElem?_eq_some_iff.1 hoj).1
    have hunf := getD_both hun
    obtain ⟨τ, Γj, h1, h2, h3⟩ := hat.2 j o hoj
    unfold wpOp
    rw [hoj']
    have hdj : dst l j = o.dst := by unfold dst; rw [hoj]; rfl
    have hsz : j < listed.size := by rw [inv.head.size]; simpa using hjl
    have hcnt' : Rc.cnt (listed.setIfInBounds j true) l.length = f := by
      have := Rc.cnt_set hunf hsz l.length hjl
      omega
    -- what the other operations' guards say stays
    have stayG : ∀ (i : Nat) (oi : Oper) (v : Value), l[i]? = some oi → (listed.getD i false = true ∨ i = j) → Region.wanted oi (yielded l.toArray (a.put o.dst v).tmps) = Region.wanted oi (yielded l.toArray a.tmps) := by
      intro i oi v hoi hli
      refine wanted_put fun g b hg t hdg e => ?_
      have hA := ho.guard i oi g b hoi hg
      have hlg : listed.getD g false = true := by
        rcases hli with h | rfl
        · exact hA.inL inv.head h
        · exact hA.ready inv.head hj
      have hgj : g ≠ j := fun e => by rw [e, hunf] at hlg; cases hlg
      exact ho.dne g j hgj t hdg (hdj.trans e)
    have go : ∀ (v : Value) (w' : World) (σ' : S), Go1 σ σ' w w' → WT c.gt σ' w' → (Region.wanted o (yielded l.toArray a.tmps) = true → VT σ' v τ) → wpAny c.P .any l.toArray Q f (listed.setIfInBounds j true) (a.put o.dst v) w' := by
      intro v w' σ' g1 g2 g3
      have hle := g1.le inv.wt
      refine ih _ _ w' σ' ⟨inv.go.trans g1, g2, ?_, ?_, inv.head.set hj hjl, fun i t τ' oi hli hdi hτi hoi hwi => ?_, fun t τ' hno hΓ => ?_⟩ hcnt'
      · refine Nat.le_trans inv.len (Nat.le_of_eq ?_)
        cases o.dst <;> simp [Act.put]
      · cases o.dst <;> exact inv.defers
      · by_cases hij : i = j
        · subst hij
          rw [h1] at hτi
          cases hτi
          rw [hoj] at hoi
          cases hoi
          rw [stayG i o v hoj (.inr rfl)] at hwi
          have hod : o.dst = some t := by rw [← hdj]; exact hdi
          rw [hod]
          have : t < a.tmps.size := Nat.lt_of_lt_of_le (ho.dlt i t hdi) inv.len
          rw [tmps_put_self this]
          exact g3 hwi
        · have hli' : listed.getD i false = true := by
            rwa [getD_set_ne false (Ne.symm hij)] at hli
          rw [stayG i oi v hoi (.inl hli')] at hwi
          have hne : o.dst ≠ some t := by rw [← hdj]; exact ho.dne i j hij t hdi
          rw [tmps_put hne]
          exact (inv.done i t τ' oi hli' hdi hτi hoi hwi).mono hle
      · have hne : o.dst ≠ some t := by
          rw [← hdj]
          refine hno j ?_
          simp [hsz]
        rw [tmps_put hne]
        refine (inv.old t τ' (fun i hli => hno i ?_) hΓ).mono hle
        by_cases hij : i = j
        · subst hij; rw [hunf] at hli; cases hli
        · rw [getD_set_ne false (Ne.symm hij)]; exact hli
    by_cases hwant : Region.wanted o (yielded l.toArray a.tmps) = true
    case neg =>
      simp only [hwant]
      exact go undef w σ (Go1.refl _ _) inv.wt (fun h => absurd h hwant)
    simp only [hwant, if_true]
    -- a slot that is read, whose operation was done
    have typed : ∀ t τ', t ∈ slots o → Γj.at t = some τ' → (∀ i oi, dst l i = some t → l[i]? = some oi → sameG l o t oi = true → Region.wanted oi (yielded l.toArray a.tmps) = true) → VT σ (a.tmps.getD t undef) τ' := by
      intro t τ' hts hΓ hwo
      have htl : t < Γ.length := by rw [← h3.1]; exact Env.lt hΓ
      rcases h3.2 t htl with ⟨i, τ1, hi, h4, h5, h6⟩ | ⟨h4, h5⟩
      · rw [hΓ] at h6
        cases h6
        rcases ho.look j o t hoj hts i h4 with e | ⟨_, hA, hG⟩ | ⟨hlt, _⟩
        · omega
        · have hil : i < l.length := by omega
          have hoi : l[i]? = some (l[i]'hil) := List.getElem?_eq_getElem hil
          exact inv.done i t τ' _ (hA.ready inv.head hj) h4 h5 hoi (hwo i _ h4 hoi (hG _ hoi))
        · omega
      · refine inv.old t τ' (fun i hli hdi => ?_) (by rw [← h5]; exact hΓ)
        rcases ho.look j o t hoj hts i hdi with e | ⟨hlt, _⟩ | ⟨_, hA⟩
        · subst e; rw [hunf] at hli; cases hli
        · exact h4 i hlt hdi
        · have := hA.inL inv.head hli
          rw [hunf] at this
          cases this
    have base : ∀ oi, (oi.guard.isNone || oi.guard == o.guard) = true → Region.wanted oi (yielded l.toArray a.tmps) = true := by
      intro oi h
      rw [Bool.or_eq_true] at h
      rcases h with h | h
      · exact wanted_none (by simpa using h) _
      · rw [beq_iff_eq] at h
        unfold Region.wanted at hwant ⊢
        rw [h]
        exact hwant
    refine .inl ?_
    by_cases hp : ∃ x y z, o.op = .pick x y z
    · obtain ⟨x, y, z, hop⟩ := hp
      have hts : ∀ u, u = x ∨ u = y ∨ u = z → ∀ t, u = .tmp t → t ∈ slots o := fun u hu t ht => mem_slots (by rw [hop]; subst ht; rcases hu with h | h | h <;> rw [h] <;> simp [Op.operands])
      have hx : VT σ (a.eval x) (ty c.gt Γj x) := ty_op inv.wt x (fun t τ' hxt hΓ => typed t τ' (hts x (.inl rfl) t hxt) hΓ (fun i oi hdi hoi hsg => base oi (by
        unfold sameG at hsg
        rw [Bool.or_eq_true] at hsg
        rcases hsg with hsg | hsg
        · exact hsg
        · exfalso
          rw [hop, hxt] at hsg
          simp only [pickB] at hsg
          cases hg : oi.guard with
          | none => simp [hg] at hsg
          | some gb =>
            obtain ⟨g, b⟩ := gb
            simp [hg] at hsg)))
      have arm : ∀ (bv : Bool), a.eval x = .bool bv → VT σ (a.eval (if bv then y else z)) (ty c.gt Γj (if bv then y else z)) := by
        intro bv hbv
        refine ty_op inv.wt _ (fun t τ' hyt hΓ => typed t τ' (hts _ (by cases bv <;> simp) t hyt) hΓ (fun i oi hdi hoi hsg => ?_))
        unfold sameG at hsg
        rw [Bool.or_eq_true] at hsg
        rcases hsg with hsg | hsg
        · exact base oi hsg
        · rw [hop] at hsg
          cases x with
          | tmp xt =>
            simp only [pickB] at hsg
            cases hg : oi.guard with
            | none => simp [hg] at hsg
            | some gb =>
              obtain ⟨g, b⟩ := gb
              simp only [hg, Bool.and_eq_true, beq_iff_eq, bne_iff_ne, Bool.not_eq_true'] at hsg
              obtain ⟨⟨hs1, _⟩, hs2⟩ := hsg
              have hbb : b = bv := by
                cases b <;> cases bv <;> first | rfl | (exfalso; simp only [Bool.false_eq_true, if_false, if_true] at hs2 hyt; rw [hyt] at hs2; simp [isTmp] at hs2)
              unfold Region.wanted
              rw [hg]
              dsimp only
              rw [yielded_at hs1 hbv, hbb]
              simp
          | _ => simp [pickB] at hsg
      rw [hop] at h2
      have exec : ∀ bv, a.eval x = .bool bv → (execOp a.eval o).run c.P w = .ok (.value (a.eval (if bv then y else z))) w := by
        intro bv hbv
        cases bv <;> simp [execOp, hop, hbv, asBool]
      unfold absG at h2
      dsimp only at h2
      split at h2
      · rename_i hb
        cases h2
        rw [hb] at hx
        exact wp_of_value (exec true hx) (go _ w σ (Go1.refl _ _) inv.wt fun _ => arm true hx)
      · rename_i hb
        cases h2
        rw [hb] at hx
        exact wp_of_value (exec false hx) (go _ w σ (Go1.refl _ _) inv.wt fun _ => arm false hx)
      · rename_i hb
        cases h2
        rw [hb] at hx
        obtain ⟨bv, hbv⟩ := hx
        refine wp_of_value (exec bv hbv) (go _ w σ (Go1.refl _ _) inv.wt fun _ => ?_)
        have := arm bv hbv
        cases bv
        · exact join_r this
        · exact join_l this
      · cases h2
    · have h2' : absC c Γj o.op = some τ := by
        unfold absG at h2
        split at h2
        · rename_i x y z hop
          exact absurd ⟨x, y, z, hop⟩ hp
        · exact h2
      have np : ∀ t oi, sameG l o t oi = true → (oi.guard.isNone || oi.guard == o.guard) = true := by
        intro t oi hs
        unfold sameG at hs
        rw [Bool.or_eq_true] at hs
        rcases hs with hs | hs
        · exact hs
        · unfold pickB at hs
          split at hs
          · rename_i x y z hop
            exact absurd ⟨_, _, _, hop⟩ hp
          · cases hs
      exact op_ok hc inv.wt o (Γ := Γj) (fun x hx => ty_op inv.wt x (fun t τ' hxt hΓ => typed t τ' (mem_slots (by rw [← hxt]; exact hx)) hΓ (fun i oi hdi hoi hsg => base oi (np t oi hsg)))) h2' (fun v σ' w' g1 g2 g3 => go v w' σ' g1 g2 fun _ => g3)
theorem draw_ok {c : Ctx} (hc : c.Ok) {Q : Exit → Act → World → Prop} {id : Nat} {l : List Oper} {Γ Γe : Env} {σ : S} {a : Act} {w : World} (h : drawT c l Γ = some Γe) (hw : WT c.gt σ w) (ht : Typed σ a Γ)
    (hQ : ∀ σ' a' w', Go1 σ σ' w w' → WT c.gt σ' w' → Typed σ' a' Γe → Q .normal a' w') : (Code.region id l.toArray true).wp c.P Q a w := by
  unfold drawT at h
  split at h
  · rename_i hb0
    have hb : Ord l Γ.length := by
      have := orderB_ok hb0.1
      exact ⟨this.guard, this.edge, fun j d hd => Nat.lt_of_lt_of_le (this.dlt j d hd) hb0.2, this.dne, this.look⟩
    rw [Option.map_eq_some_iff] at h
    obtain ⟨⟨τs, Γ'⟩, hs, rfl⟩ := h
    refine wp_region_any hc.order ?_
    have hsz : l.toArray.size = l.length := by simp
    have hcnt : ∀ k, k ≤ l.length → Rc.cnt (Array.replicate l.toArray.size false) k = k := by
      intro k
      induction k with
      | zero => intro _; rfl
      | succ k ih => intro hk; unfold Rc.cnt; rw [getD_replicate_false, ih (by omega)]; simp
    have := any_ok hc (Q := Q) hs hb (σ0 := σ) (w0 := w) hQ l.length (Array.replicate l.toArray.size false) a w.drew σ
      ⟨(Go1.refl σ w).drew, hw.drew, ht.1, ht.2.1, ⟨by simp, fun j oj _ hl => (by rw [getD_replicate_false] at hl; cases hl), fun t h1 h2 => (by simp at h2; omega)⟩,
        fun j t τ _ hl => (by rw [getD_replicate_false] at hl; cases hl), fun t τ _ hΓ => ht.2.2 t τ hΓ⟩ (hcnt _ (Nat.le_refl _))
    rw [hsz]
    exact this
  · cases h
end Ab
end Go.Proofs.YtmonkggoilhngaaGreatDoor
/- A reckoning with kinds: code, and whole functions. Plain; no condition. -/
namespace Go.Proofs.YtmonkggoilhngaaGreatDoor
set_option linter.unusedVariables false
set_option linter.unusedSimpArgs false
open Go.RowKit
namespace Ab
structure Res where
  nrm : Option Env
  ret : Option Env
  ext : List (Nat × Env)
noncomputable def jo : Option Env → Option Env → Option Env
  | none, y => y
  | some x, none => some x
  | some x, some y => some (joinE x y)
noncomputable def ins : List (Nat × Env) → Nat → Env → List (Nat × Env)
  | [], i, Γ => [(i, Γ)]
  | (j, Δ) :: r, i, Γ => if j = i then (j, joinE Δ Γ) :: r else (j, Δ) :: ins r i Γ
noncomputable def je (xs : List (Nat × Env)) : List (Nat × Env) → List (Nat × Env)
  | [] => xs
  | (i, Γ) :: r => je (ins xs i Γ) r
def has (σ : S) (a : Act) (o : Option Env) : Prop := ∃ Γ, o = some Γ ∧ Typed σ a Γ
def hasE (σ : S) (a : Act) (i : Nat) (l : List (Nat × Env)) : Prop := ∃ Γ, (i, Γ) ∈ l ∧ Typed σ a Γ
theorem jo_l {σ : S} {a : Act} {x y : Option Env} (h : has σ a x) : has σ a (jo x y) := by
  obtain ⟨Γ, rfl, ht⟩ := h
  cases y with
  | none => exact ⟨Γ, rfl, ht⟩
  | some Δ => exact ⟨_, rfl, joinE_l ht⟩
theorem jo_r {σ : S} {a : Act} {x y : Option Env} (h : has σ a y) : has σ a (jo x y) := by
  obtain ⟨Γ, rfl, ht⟩ := h
  cases x with
  | none => exact ⟨Γ, rfl, ht⟩
  | some Δ => exact ⟨_, rfl, joinE_r ht⟩
theorem ins_l {σ : S} {a : Act} {i : Nat} {j : Nat} {Γ : Env} : ∀ {l : List (Nat × Env)}, hasE σ a i l → hasE σ a i (ins l j Γ)
  | (k, Δ) :: r, ⟨Λ, hm, ht⟩ => by
    unfold ins
    rcases List.mem_cons.1 hm with e | hm
    · cases e
      split
      · exact ⟨_, List.mem_cons_self .., joinE_l ht⟩
      · exact ⟨_, List.mem_cons_self .., ht⟩
    · split
      · exact ⟨Λ, List.mem_cons_of_mem _ hm, ht⟩
      · obtain ⟨Λ', hm', ht'⟩ := ins_l (j := j) (Γ := Γ) (l := r) ⟨Λ, hm, ht⟩
        exact ⟨Λ', List.mem_cons_of_mem _ hm', ht'⟩
theorem ins_r {σ : S} {a : Act} {j : Nat} {Γ : Env} (ht : Typed σ a Γ) : ∀ (l : List (Nat × Env)), hasE σ a j (ins l j Γ)
  | [] => ⟨Γ, List.mem_cons_self .., ht⟩
  | (k, Δ) :: r => by
    unfold ins
    split
    · rename_i e; subst e; exact ⟨_, List.mem_cons_self .., joinE_r ht⟩
    · obtain ⟨Λ', hm', ht'⟩ := ins_r ht r
      exact ⟨Λ', List.mem_cons_of_mem _ hm', ht'⟩
theorem je_l {σ : S} {a : Act} {i : Nat} : ∀ {ys xs : List (Nat × Env)}, hasE σ a i xs → hasE σ a i (je xs ys)
  | [], _, h => h
  | (j, Γ) :: r, xs, h => by unfold je; exact je_l (ins_l h)
theorem je_r {σ : S} {a : Act} {i : Nat} : ∀ {ys xs : List (Nat × Env)}, hasE σ a i ys → hasE σ a i (je xs ys)
  | (j, Γ) :: r, xs, ⟨Λ, hm, ht⟩ => by
    unfold je
    rcases List.mem_cons.1 hm with e | hm
    · cases e; exact je_l (ins_r ht xs)
    · exact je_r ⟨Λ, hm, ht⟩
def InR (σ : S) (a : Act) (r : Res) : Exit → Prop
  | .normal => has σ a r.nrm
  | .ret => has σ a r.ret
  | .exit i => hasE σ a i r.ext
  | _ => False
noncomputable def jr (r r' : Res) : Res := ⟨jo r.nrm r'.nrm, jo r.ret r'.ret, je r.ext r'.ext⟩
theorem jr_l {σ : S} {a : Act} {r r' : Res} {e : Exit} (h : InR σ a r e) : InR σ a (jr r r') e := by
  cases e <;> first | exact jo_l h | exact je_l h | exact h
theorem jr_r {σ : S} {a : Act} {r r' : Res} {e : Exit} (h : InR σ a r' e) : InR σ a (jr r r') e := by
  cases e <;> first | exact jo_r h | exact je_r h | exact h
noncomputable def absL (E : Env → Option Res) : Nat → Env → Option Res
  | 0, _ => none
  | n + 1, Γ => match E Γ with
    | none => none
    | some r => match r.nrm with
      | none => some r
      | some Γ' => Γ'.forceK fun Γ' => match absL E n Γ' with
        | none => none
        | some r' => some ⟨r'.nrm, jo r.ret r'.ret, je r.ext r'.ext⟩
noncomputable def joinAll : List Env → Option Env
  | [] => none
  | Γ :: r => jo (some Γ) (joinAll r)
noncomputable def outOf (i : Nat) : List (Nat × Env) → Option Env
  | [] => none
  | (j, Γ) :: r => if j = i then jo (some Γ) (outOf i r) else outOf i r
noncomputable def seqAll (E : Env → Option Res) : List Env → Option Res
  | [] => some ⟨none, none, []⟩
  | Γ :: r => match E Γ, seqAll E r with
    | some a, some b => some (jr a b)
    | _, _ => none
noncomputable def absK (c : Ctx) (N : Nat) : Code → Env → Option Res
  | .skip, Γ => some ⟨some Γ, none, []⟩
  | .label _, Γ => some ⟨some Γ, none, []⟩
  | .exit i, Γ => some ⟨none, none, [(i, Γ)]⟩
  | .ret, Γ => some ⟨none, some Γ, []⟩
  | .region _ ops draw, Γ => match draw with
    | true => match drawT c ops.toList Γ with
      | some Γ' => some ⟨some Γ', none, []⟩
      | none => none
    | false => match listT c ops.toList ops.toList 0 [] Γ with
      | some Γs => some ⟨joinAll Γs, none, []⟩
      | none => none
  | .seq (.region _ ops false) y, Γ => match listT c ops.toList ops.toList 0 [] Γ with
    | none => none
    | some Γs => seqAll (absK c N y) Γs
  | .seq x y, Γ => match absK c N x Γ with
    | none => none
    | some r => match r.nrm with
      | none => some r
      | some Γ' => match absK c N y Γ' with
        | none => none
        | some r' => some ⟨r'.nrm, jo r.ret r'.ret, je r.ext r'.ext⟩
  | .cond x y z, Γ => match ty c.gt Γ x with
    | .cb true => absK c N y Γ
    | .cb false => absK c N z Γ
    | .bool => match absK c N y Γ, absK c N z Γ with
      | some r, some r' => some (jr r r')
      | _, _ => none
    | _ => none
  | .block i x, Γ => match absK c N x Γ with
    | none => none
    | some r => some ⟨jo r.nrm (outOf i r.ext), r.ret, r.ext.filter fun y => y.1 != i⟩
  | .loop x, Γ => absL (absK c N x) N Γ
  | _, _ => none
def Out (c : Ctx) (σ : S) (w : World) (r : Res) (e : Exit) (a : Act) (w' : World) : Prop := ∃ σ', Go1 σ σ' w w' ∧ WT c.gt σ' w' ∧ InR σ' a r e
section
variable {c : Ctx} {σ : S} {w : World} {a : Act}
theorem outOf_ok {i : Nat} : ∀ {l : List (Nat × Env)}, hasE σ a i l → has σ a (outOf i l)
  | (j, Γ) :: r, ⟨Λ, hm, ht⟩ => by
    unfold outOf
    rcases List.mem_cons.1 hm with e | hm
    · cases e
      rw [if_pos rfl]
      exact jo_l ⟨_, rfl, ht⟩
    · split
      · exact jo_r (outOf_ok ⟨Λ, hm, ht⟩)
      · exact outOf_ok ⟨Λ, hm, ht⟩
theorem joinAll_ok : ∀ {l : List Env} {Γ : Env}, Γ ∈ l → Typed σ a Γ → has σ a (joinAll l)
  | Δ :: r, Γ, hm, ht => by
    unfold joinAll
    rcases List.mem_cons.1 hm with e | hm
    · subst e; exact jo_l ⟨_, rfl, ht⟩
    · exact jo_r (joinAll_ok hm ht)
end
theorem seqAll_some {E : Env → Option Res} : ∀ {Γs : List Env} {r : Res} {Γ : Env}, seqAll E Γs = some r → Γ ∈ Γs → ∃ r1, E Γ = some r1 ∧ ∀ σ a e, InR σ a r1 e → InR σ a r e
  | Δ :: l, r, Γ, h, hm => by
    unfold seqAll at h
    split at h
    · rename_i x y h1 h2
      cases h
      rcases List.mem_cons.1 hm with rfl | hm
      · exact ⟨x, h1, fun _ _ _ => jr_l⟩
      · obtain ⟨r1, k1, k2⟩ := seqAll_some h2 hm
        exact ⟨r1, k1, fun σ a e hh => jr_r (k2 σ a e hh)⟩
    · cases h
def Sound (c : Ctx) (x : Code) (E : Env → Option Res) : Prop :=
  ∀ (Γ : Env) (r : Res) (σ : S) (a : Act) (w : World) (Q : Exit → Act → World → Prop), E Γ = some r → WT c.gt σ w → Typed σ a Γ → (∀ e a' w', Out c σ w r e a' w' → Q e a' w') → x.wp c.P Q a w
theorem loop_ok {c : Ctx} {x : Code} {E : Env → Option Res} (hx : Sound c x E) : ∀ (n : Nat) (Γ : Env) (r : Res) (σ : S) (a : Act) (w : World) (Q : Exit → Act → World → Prop), absL E n Γ = some r → WT c.gt σ w → Typed σ a Γ →
    (∀ e a' w', e ≠ .normal → Out c σ w r e a' w' → Q e a' w') → Code.rounds c.P x Q n a w
  | 0, Γ, r, σ, a, w, Q, h, _, _, _ => by simp [absL] at h
  | n + 1, Γ, r, σ, a, w, Q, h, hw, ht, hQ => by
    unfold absL at h
    rw [rounds_succ]
    cases hE : E Γ with
    | none => simp [hE] at h
    | some r1 =>
      simp only [hE] at h
      refine hx Γ r1 σ a w _ hE hw ht (fun e a' w' ho => ?_)
      obtain ⟨σ', g1, g2, g3⟩ := ho
      cases hn : r1.nrm with
      | none =>
        simp only [hn] at h
        cases h
        cases e with
        | normal => obtain ⟨Γ', h1, _⟩ := g3; rw [hn] at h1; cases h1
        | _ => exact hQ _ a' w' (by simp) ⟨σ', g1, g2, g3⟩
      | some Γ' =>
        simp only [hn, Env.forceK_eq] at h
        cases hL : absL E n Γ' with
        | none => simp [hL] at h
        | some r' =>
          simp only [hL] at h
          cases h
          cases e with
          | normal =>
            obtain ⟨Γ1, h1, ht'⟩ := g3
            rw [hn] at h1
            cases h1
            refine loop_ok hx n Γ' r' σ' a' w' Q hL g2 ht' (fun e a2 w2 hne ho => ?_)
            obtain ⟨σ2, k1, k2, k3⟩ := ho
            refine hQ e a2 w2 hne ⟨σ2, g1.trans k1, k2, ?_⟩
            cases e with
            | normal => exact absurd rfl hne
            | ret => exact jo_r k3
            | exit i => exact je_r k3
            | _ => exact k3
          | ret => exact hQ _ a' w' (by simp) ⟨σ', g1, g2, jo_l g3⟩
          | exit i => exact hQ _ a' w' (by simp) ⟨σ', g1, g2, je_l g3⟩
          | _ => exact g3.elim
theorem absK_ok {c : Ctx} (hc : c.Ok) (N : Nat) : ∀ x : Code, Sound c x (absK c N x) := by
  intro x
  induction x with
  | skip => intro Γ r σ a w Q h hw ht hQ; cases h; exact wp_skip (hQ _ _ _ ⟨σ, Go1.refl _ _, hw, Γ, rfl, ht⟩)
  | label l => intro Γ r σ a w Q h hw ht hQ; cases h; exact wp_label (hQ _ _ _ ⟨σ, Go1.refl _ _, hw, Γ, rfl, ht⟩)
  | exit i => intro Γ r σ a w Q h hw ht hQ; cases h; exact wp_exit (hQ _ _ _ ⟨σ, Go1.refl _ _, hw, Γ, List.mem_cons_self .., ht⟩)
  | ret => intro Γ r σ a w Q h hw ht hQ; cases h; exact wp_ret (hQ _ _ _ ⟨σ, Go1.refl _ _, hw, Γ, rfl, ht⟩)
  | region id ops draw =>
    intro Γ r σ a w Q h hw ht hQ
    cases draw with
    | true =>
      simp only [absK] at h
      split at h
      · rename_i Γ' hd
        cases h
        have := draw_ok hc (id := id) (Q := Q) hd hw ht (fun σ' a' w' g1 g2 g3 => hQ _ _ _ ⟨σ', g1, g2, Γ', rfl, g3⟩)
        simpa using this
      · cases h
    | false =>
      simp only [absK] at h
      split at h
      · rename_i Γs hd
        cases h
        refine wp_region_list ?_
        have := list_ok hc (Q := Q) ops.toList ops.toList 0 [] Γ Γs σ a w hd hw ht (fun _ h => nomatch h) (fun σ' a' w' g1 g2 g3 => by
          obtain ⟨Γ', hm, ht'⟩ := g3
          exact hQ _ _ _ ⟨σ', g1, g2, joinAll_ok hm ht'⟩)
        simpa using this
      · cases h
  | seq x y ihx ihy =>
    intro Γ r σ a w Q h hw ht hQ
    by_cases hreg : ∃ id ops, x = .region id ops false
    · obtain ⟨id, ops, rfl⟩ := hreg
      simp only [absK] at h
      split at h
      · cases h
      · rename_i Γs hd
        refine wp_seq (wp_region_list ?_)
        have := list_ok hc (Q := Exit.then (y.wp c.P Q) Q) ops.toList ops.toList 0 [] Γ Γs σ a w hd hw ht (fun _ h => nomatch h) (fun σ' a' w' g1 g2 g3 => by
          obtain ⟨Γ', hm, ht'⟩ := g3
          obtain ⟨r1, k1, k2⟩ := seqAll_some h hm
          exact ihy Γ' r1 σ' a' w' Q k1 g2 ht' (fun e a2 w2 ho => by
            obtain ⟨σ2, l1, l2, l3⟩ := ho
            exact hQ e a2 w2 ⟨σ2, g1.trans l1, l2, k2 _ _ _ l3⟩))
        simpa using this
    have h' : (match absK c N x Γ with
      | none => none
      | some r => match r.nrm with
        | none => some r
        | some Γ' => match absK c N y Γ' with
          | none => none
          | some r' => some ⟨r'.nrm, jo r.ret r'.ret, je r.ext r'.ext⟩) = some r := by
      rw [← h]
      cases x with
      | region id ops draw =>
        cases draw with
        | true => rfl
        | false => exact absurd ⟨id, ops, rfl⟩ hreg
      | _ => rfl
    clear h hreg
    have h := h'
    clear h'
    split at h
    · cases h
    · rename_i r1 h1
      refine wp_seq (ihx Γ r1 σ a w _ h1 hw ht (fun e a' w' ho => ?_))
      obtain ⟨σ', g1, g2, g3⟩ := ho
      split at h
      · rename_i hn
        cases h
        cases e with
        | normal => obtain ⟨Γ', h2, _⟩ := g3; rw [hn] at h2; cases h2
        | _ => exact hQ _ a' w' ⟨σ', g1, g2, g3⟩
      · rename_i Γ' hn
        split at h
        · cases h
        · rename_i r' h2
          cases h
          cases e with
          | normal =>
            obtain ⟨Γ1, h3, ht'⟩ := g3
            rw [hn] at h3
            cases h3
            refine ihy Γ' r' σ' a' w' Q h2 g2 ht' (fun e a2 w2 ho => ?_)
            obtain ⟨σ2, k1, k2, k3⟩ := ho
            refine hQ e a2 w2 ⟨σ2, g1.trans k1, k2, ?_⟩
            cases e with
            | ret => exact jo_r k3
            | exit i => exact je_r k3
            | _ => exact k3
          | ret => exact hQ _ a' w' ⟨σ', g1, g2, jo_l g3⟩
          | exit i => exact hQ _ a' w' ⟨σ', g1, g2, je_l g3⟩
          | _ => exact g3.elim
  | cond x y z ihy ihz =>
    intro Γ r σ a w Q h hw ht hQ
    have hx := ty_ok hw ht x
    simp only [absK] at h
    split at h
    · rename_i hb; rw [hb] at hx; exact wp_cond_true hx (ihy Γ r σ a w Q h hw ht hQ)
    · rename_i hb; rw [hb] at hx; exact wp_cond_false hx (ihz Γ r σ a w Q h hw ht hQ)
    · rename_i hb
      rw [hb] at hx
      obtain ⟨b, hx⟩ := hx
      split at h
      · rename_i r1 r2 h1 h2
        cases h
        refine wp_cond_split hx (fun _ => ihy Γ r1 σ a w Q h1 hw ht (fun e a' w' ho => ?_)) (fun _ => ihz Γ r2 σ a w Q h2 hw ht (fun e a' w' ho => ?_))
        · obtain ⟨σ', g1, g2, g3⟩ := ho; exact hQ _ _ _ ⟨σ', g1, g2, jr_l g3⟩
        · obtain ⟨σ', g1, g2, g3⟩ := ho; exact hQ _ _ _ ⟨σ', g1, g2, jr_r g3⟩
      · cases h
    · cases h
  | block i x ih =>
    intro Γ r σ a w Q h hw ht hQ
    simp only [absK] at h
    split at h
    · cases h
    · rename_i r1 h1
      cases h
      refine wp_block (ih Γ r1 σ a w _ h1 hw ht (fun e a' w' ho => ?_))
      obtain ⟨σ', g1, g2, g3⟩ := ho
      cases e with
      | normal => exact hQ _ _ _ ⟨σ', g1, g2, jo_l g3⟩
      | ret => exact hQ _ _ _ ⟨σ', g1, g2, g3⟩
      | exit j =>
        show (if j = i then Q .normal a' w' else Q (.exit j) a' w')
        split
        · rename_i e; subst e; exact hQ _ _ _ ⟨σ', g1, g2, jo_r (outOf_ok g3)⟩
        · rename_i hne
          obtain ⟨Λ, hm, hl⟩ := g3
          exact hQ _ _ _ ⟨σ', g1, g2, Λ, by rw [List.mem_filter]; exact ⟨hm, by simpa using hne⟩, hl⟩
      | _ => exact g3.elim
  | loop x ih =>
    intro Γ r σ a w Q h hw ht hQ
    simp only [absK] at h
    exact wp_loop_rounds N (loop_ok ih N Γ r σ a w Q h hw ht (fun e a' w' _ ho => hQ e a' w' ho))
  | _ => intro Γ r σ a w Q h hw ht hQ; simp [absK] at h
/-! Whole functions. -/
noncomputable def resT (c : Ctx) (Γ : Env) : ResultVar → Option T
  | .tmp t => Γ.at t
  | .cell t y => match Γ.at t, c.t y with
    | some (.ptr _ l off), some i => if i.row then (if off + i.size ≤ l.length then some (.agg (seg l off i.size)) else none) else (l[off]?).map ofK
    | _, _ => none
def resS (tmps : Array Value) : ResultVar → Sem Value
  | .tmp t => pure (tmps.getD t undef)
  | .cell u t => do loadVar t (← asAddr (tmps.getD u undef))
theorem results_eq (fn : Func) (tmps : Array Value) : results fn tmps = (do let vs ← fn.results.mapM (resS tmps); pure (if h : vs.size = 1 then vs[0] else .tuple vs)) := rfl
theorem resT_ok {c : Ctx} (hc : c.Ok) {σ : S} {w : World} {a : Act} {Γ : Env} (hw : WT c.gt σ w) (ht : Typed σ a Γ) {x : ResultVar} {τ : T} (h : resT c Γ x = some τ) :
    ∃ v, (resS a.tmps x).run c.P w = .ok v w ∧ VT σ v τ := by
  cases x with
  | tmp t => exact ⟨_, rfl, ht.2.2 t τ h⟩
  | cell u t =>
    simp only [resT] at h
    split at h
    · rename_i m l off i h1 h2
      have hv := ht.2.2 u _ h1
      obtain ⟨b, m', he, hb, hm⟩ := hv
      have hv' : VT σ (.pointer (some ⟨b, off, none⟩)) (.ptr m l off) := ⟨b, m', rfl, hb, hm⟩
      obtain ⟨v, w', hr, σ', g1, g2, g3⟩ := load_ok hc hw h2 hv' h
      obtain ⟨C, t', f, hh, hf, hC⟩ := hw.blk b m' l hb
      have hw' : w' = w ∧ VT σ v τ := by
        -- the load leaves the world
        have key : ∀ (ρ : T), (if i.row then (if off + i.size ≤ l.length then some (T.agg (seg l off i.size)) else none) else (l[off]?).map ofK) = some ρ → ∃ v, (Instr.loadAt t (.pointer (some ⟨b, off, none⟩))).run c.P w = .ok v w ∧ VT σ v ρ := by
          intro ρ hρ
          obtain ⟨it, z, d, hit, hsz, _, _, hu, hrw⟩ := (hc.t h2).info
          split at hρ
          · rename_i hrow
            split at hρ
            · rename_i hle
              cases hρ
              have hs := hC.seg off i.size
              have hl : ((C.toList.drop off).take i.size).length = i.size := by have := hC.1; simp at this ⊢; omega
              have hrun := run_loadAt_mid (P := c.P) w b off t ((C.toList.drop off).take i.size) d (fun j u hj => by
                rw [cell_of_row w b _ _ _ _ hh]
                rw [List.getElem?_take] at hj
                split at hj
                · rw [List.getElem?_drop] at hj
                  simpa using hj
                · cases hj) hu (hrw.trans hrow) (by rw [hit]; simp [hsz, hl])
              exact ⟨_, hrun, _, rfl, hs⟩
            · cases hρ
          · rename_i hrow
            cases hl : l[off]? with
            | none => simp [hl] at hρ
            | some κ =>
              simp only [hl, Option.map_some, Option.some.injEq] at hρ
              subst hρ
              obtain ⟨u, hu1, hu2⟩ := hC.2 off κ hl
              have hcell : w.cell? ⟨b, off, none⟩ = some u := by rw [cell_of_row w b _ _ _ _ hh]; simpa using hu1
              refine ⟨u, ?_, ofK_ok hu2⟩
              have hd : d.isRow = false := by rw [hrw]; simpa using hrow
              cases d <;> first | (simp at hd; done) | simp [Instr.loadAt, Instr.sureAddr, loadVar, isAgg, run_underlying hu, hcell]
        obtain ⟨v', hr', hv''⟩ := key τ h
        rw [hr] at hr'
        cases hr'
        exact ⟨rfl, hv''⟩
      obtain ⟨rfl, hv''⟩ := hw'
      refine ⟨v, ?_, hv''⟩
      unfold resS
      simp only [he, asAddr, Sem.run_bind, Sem.run_pure, Result.andThen_ok]
      simpa [Instr.loadAt, Instr.sureAddr] using hr
    · cases h
noncomputable def resTs (c : Ctx) (Γ : Env) : List ResultVar → Option T
  | [] => some .any
  | [x] => resT c Γ x
  | [x, y] => match resT c Γ x, resT c Γ y with
    | some a, some b => some (.t2 a b)
    | _, _ => none
  | [x, y, z] => match resT c Γ x, resT c Γ y, resT c Γ z with
    | some a, some b, some d => some (.t3 a b d)
    | _, _, _ => none
  | _ => none
theorem resTs_ok {c : Ctx} (hc : c.Ok) {σ : S} {w : World} {a : Act} {Γ : Env} (hw : WT c.gt σ w) (ht : Typed σ a Γ) (fn : Func) {τ : T} (h : resTs c Γ fn.results.toList = some τ) :
    ∃ v, (results fn a.tmps).run c.P w = .ok v w ∧ VT σ v τ := by
  obtain ⟨rs, hrs⟩ : ∃ rs, rs = fn.results.toList := ⟨_, rfl⟩
  have hre : fn.results = rs.toArray := by rw [hrs]
  rw [← hrs] at h
  unfold resTs at h
  split at h
  · cases h
    refine ⟨.tuple #[], ?_, trivial⟩
    simp [results_eq, hre]
  · rename_i x
    obtain ⟨v, h1, h2⟩ := resT_ok hc hw ht h
    refine ⟨v, ?_, h2⟩
    simp only [results_eq, hre, List.mapM_toArray, List.mapM_cons, List.mapM_nil]
    simp [Sem.run_bind, h1]
  · rename_i x y
    split at h
    · rename_i τ1 τ2 e1 e2
      cases h
      obtain ⟨v, h1, h2⟩ := resT_ok hc hw ht e1
      obtain ⟨v', h1', h2'⟩ := resT_ok hc hw ht e2
      refine ⟨.tuple #[v, v'], ?_, v, v', rfl, h2, h2'⟩
      simp only [results_eq, hre, List.mapM_toArray, List.mapM_cons, List.mapM_nil]
      simp [Sem.run_bind, h1, h1']
    · cases h
  · rename_i x y z
    split at h
    · rename_i τ1 τ2 τ3 e1 e2 e3
      cases h
      obtain ⟨v, h1, h2⟩ := resT_ok hc hw ht e1
      obtain ⟨v', h1', h2'⟩ := resT_ok hc hw ht e2
      obtain ⟨v'', h1'', h2''⟩ := resT_ok hc hw ht e3
      refine ⟨.tuple #[v, v', v''], ?_, v, v', v'', rfl, h2, h2', h2''⟩
      simp only [results_eq, hre, List.mapM_toArray, List.mapM_cons, List.mapM_nil]
      simp [Sem.run_bind, h1, h1', h1'']
    · cases h
  · cases h
noncomputable def env0 (n : Nat) : Nat → List T → Env
  | _, [] => ⟨n, .nil⟩
  | k, τ :: τs => (env0 n (k + 1) τs).set k τ
theorem env0_length (n : Nat) : ∀ (k : Nat) (τs : List T), (env0 n k τs).length = n
  | _, [] => rfl
  | k, _ :: τs => env0_length n (k + 1) τs
theorem env0_at (n : Nat) : ∀ (τs : List T) (k t : Nat) (τ : T), (env0 n k τs).at t = some τ → k ≤ t ∧ τs[t - k]? = some τ
  | [], k, t, τ, h => by
    have hlt := Env.lt h
    unfold env0 at h hlt
    rw [Env.at_ok hlt, Tr.get_nil] at h
    cases h
  | x :: τs, k, t, τ, h => by
    have hlt := Env.lt h
    unfold env0 at h hlt
    by_cases e : k = t
    · subst e
      rw [Env.set_self (by exact hlt)] at h
      cases h
      exact ⟨Nat.le_refl _, by simp⟩
    · rw [Env.set_ne e] at h
      obtain ⟨h1, h2⟩ := env0_at n τs (k + 1) t τ h
      refine ⟨by omega, ?_⟩
      rw [show t - k = (t - (k + 1)) + 1 by omega, List.getElem?_cons_succ]
      exact h2
noncomputable def absF (c : Ctx) (N : Nat) (fn : Func) (τs : List T) : Option T :=
  match fn.body with
  | none => none
  | some x => match absK c N x (env0 fn.ntmps 0 τs) with
    | none => none
    | some r => if r.ext.isEmpty then (match jo r.nrm r.ret with | some Γ => resTs c Γ fn.results.toList | none => none) else none
noncomputable def chkF (c : Ctx) (N : Nat) (fn : Func) (τs : List T) (τ : T) : Bool :=
  !(fn.name == "runtime.NumGoroutine") && (match absF c N fn τs with | some ρ => sub ρ τ | none => false)
theorem sig_calls {c : Ctx} (hc : c.Ok) {f : FuncId} {fn : Func} (N : Nat) (hf : c.P.funcs[f]? = some fn) {τs : List T} {τ : T} (h : chkF c N fn τs τ = true) {σ : S} {w : World} {vs : Array Value} (hw : WT c.gt σ w) (hvs : VTs σ vs.toList τs) :
    (callFunc f vs).run c.P w = .ok (.enter f vs) w ∧ Calls c.P f vs w fun e w' => ∃ v, e = .returned v ∧ Ans c.gt σ w v w' τ := by
  unfold chkF at h
  rw [Bool.and_eq_true, Bool.not_eq_true'] at h
  obtain ⟨hname, h⟩ := h
  cases hF : absF c N fn τs with
  | none => simp [hF] at h
  | some ρ =>
    simp only [hF] at h
    unfold absF at hF
    cases hb : fn.body with
    | none => simp [hb] at hF
    | some x =>
      simp only [hb] at hF
      cases hK : absK c N x (env0 fn.ntmps 0 τs) with
      | none => simp [hK] at hF
      | some r =>
        simp only [hK] at hF
        split at hF
        · rename_i hext
          have h1 : fn.name ≠ "runtime.NumGoroutine" := by simpa using hname
          refine ⟨by simp [callFunc, hf, h1, hb, mark], ?_⟩
          have hlen := hvs.1
          simp only [Array.length_toList] at hlen
          refine calls_of_wp hf hb ?_
          refine absK_ok hc N x _ r σ _ w _ hK hw ?_ (fun e a w' ho => ?_)
          · refine ⟨by rw [env0_length]; simp; omega, rfl, fun t τ' ht => ?_⟩
            · obtain ⟨_, ht⟩ := env0_at _ _ _ _ _ ht
              rw [Nat.sub_zero] at ht
              obtain ⟨v, hv1, hv2⟩ := hvs.2 t τ' ht
              have hlt : t < vs.size := by
                have := (List.getElem?_eq_some_iff.1 ht).1
                omega
              have : (vs ++ Array.replicate (fn.ntmps - vs.size) undef).getD t undef = v := by
                rw [Array.getD_eq_getD_getElem?, Array.getElem?_append_left hlt]
                have : vs[t]? = some v := by simpa using hv1
                rw [this]
                rfl
              rw [this]
              exact hv2
          · obtain ⟨σ', g1, g2, g3⟩ := ho
            have fin : ∀ (o : has σ' a (jo r.nrm r.ret)), a.defers = [] ∧ ∃ v, (results fn a.tmps).run c.P w' = .ok v w' ∧ (∃ v', Ending.returned v = Ending.returned v' ∧ Ans c.gt σ w v' w' τ) := by
              rintro ⟨Γ, hΓ, ht⟩
              rw [hΓ] at hF
              obtain ⟨v, hv1, hv2⟩ := resTs_ok hc g2 ht fn hF
              exact ⟨ht.2.1, v, hv1, v, rfl, σ', g1, g2, sub_ok _ _ hv2 h⟩
            cases e with
            | normal => exact fin (jo_l g3)
            | ret => exact fin (jo_r g3)
            | exit i =>
              obtain ⟨Λ, hm, _⟩ := g3
              rw [List.isEmpty_iff.1 hext] at hm
              cases hm
            | _ => exact g3.elim
        · cases hF
theorem sig_ok {c : Ctx} (hc : c.Ok) {f : FuncId} {fn : Func} (N : Nat) (hf : c.P.funcs[f]? = some fn) {τs : List T} {τ : T} (h : chkF c N fn τs τ = true) : SigOk c.P c.gt f τs τ :=
  fun _ _ _ hw hvs => .inr (sig_calls hc N hf h hw hvs)
end Ab
end Go.Proofs.YtmonkggoilhngaaGreatDoor
/- A reckoning with kinds, for this program: types, tables, the standard functions on words. Plain; no condition. -/
namespace Go.Proofs.YtmonkggoilhngaaGreatDoor
open Go.RowKit
namespace Ab
theorem eq_ok {P : Program} {t e : TypeId} {n : Nat} {k : IntKind} (ht : P.underlying t = some (.array n e)) (he : P.underlying e = some (.int k)) (hsz : ∀ w, (sizeOf e).run P w = .ok 1 w) (hg : P.eqGuardType P.depth t = false) :
    EqOk P t (List.replicate n (.int k)) := by
  intro σ C D w hC hD
  have lc : ∀ (C : Array Value), CT σ C.toList (List.replicate n (.int k)) → ∃ f : Nat → Int, ∀ i, i < n → (part e C (i * 1)).run P w = .ok (.int k (f i)) w := by
    intro C hC
    have : ∀ i, ∃ z : Int, i < n → (part e C (i * 1)).run P w = .ok (.int k z) w := by
      intro i
      by_cases hi : i < n
      · obtain ⟨v, h1, z, rfl, _⟩ := hC.2 i (.int k) (by rw [List.getElem?_replicate, if_pos hi])
        have h1' : C[i]? = some (.int k z) := by simpa using h1
        exact ⟨z, fun _ => by simp [part, isAgg, run_underlying he, h1']⟩
      · exact ⟨0, fun h => absurd h hi⟩
    exact ⟨fun i => (this i).choose, fun i hi => (this i).choose_spec hi⟩
  obtain ⟨f, hf⟩ := lc C hC
  obtain ⟨g, hgg⟩ := lc D hD
  have key : ∃ b, (Op.equalIn 10000 t (.agg C) (.agg D)).run P w = .ok b w := by
    rw [show (10000 : Nat) = 9999 + 1 from rfl, Op.equalIn]
    simp only [Sem.run_bind, run_underlying ht, Result.andThen_ok, hsz, Std.Legacy.Range.forIn_eq_forIn_range', Std.Legacy.Range.size, Nat.sub_zero, Nat.add_sub_cancel, Nat.div_one]
    have hl : ∀ i ∈ List.range' 0 n 1, i < n := fun i hi => by simpa using (List.mem_range'_1.1 hi).2
    generalize List.range' 0 n 1 = l at hl ⊢
    induction l with
    | nil => exact ⟨true, by simp⟩
    | cons i l ih =>
      have hi : i < n := hl i (by simp)
      have pe : (Op.equalIn 9999 e (.int k (f i)) (.int k (g i))).run P w = .ok (f i == g i) w := by
        rw [show (9999 : Nat) = 9998 + 1 from rfl, run_equalIn_int w 9998 e k k _ _ he]
      simp only [List.forIn_cons, Sem.run_bind, hf i hi, hgg i hi, pe, Result.andThen_ok]
      cases hb : (f i == g i)
      · exact ⟨false, by simp⟩
      · simp only [Bool.not_true, Bool.false_eq_true, if_false, Sem.run_pure, Result.andThen_ok]
        exact ih fun j hj => hl j (by simp [hj])
  obtain ⟨b, hb⟩ := key
  refine ⟨fun op x y => run_eqGuard_agg w op t x y C D hg, b, ?_, ?_⟩
  · rw [run_eql_struct, hb]; rfl
  · rw [run_neq_struct, hb]; rfl
abbrev U : K := .int .u64
abbrev B8 : K := .int .u8
def w4 : List K := [U, U, U, U]
def w8 : List K := [U, U, U, U, U, U, U, U]
def w16 : List K := w8 ++ w8
def w80 : List K := w16 ++ w16 ++ w16 ++ w16 ++ w16
def b8 : List K := [B8, B8, B8, B8, B8, B8, B8, B8]
def b32 : List K := b8 ++ b8 ++ b8 ++ b8
def b80 : List K := b32 ++ b32 ++ b8 ++ b8
def proofK (n : Nat) : List K := .ow 32 n :: .bool :: b32 ++ b32
def foundK : List K := .int .i64 :: b32 ++ b80 ++ [.bool, .int .i64, .sl 1] ++ b32 ++ b32 ++ proofK 256 ++ b32 ++ b32 ++ b32 ++ [.int .i64]
def signedK : List K := .int .i64 :: b32 ++ b32 ++ b32
def underK : List K := proofK 256 ++ signedK ++ b32 ++ [.ow 32 256]
def memberK : List K := .sl 1 :: .bool :: .int .i64 :: b32
def answerK : List K := .int .i64 :: .int .i64 :: .int .i64 :: foundK ++ b32 ++ [.ow 32 256] ++ underK ++ [.any, .any] ++ memberK ++ [.sl 1] ++ b32 ++ [.ow 32 256]
def mod4 : Array Value := #[.int .u64 18446744073709551597, .int .u64 18446744073709551615, .int .u64 18446744073709551615, .int .u64 9223372036854775807]
def gtL : Gt := ⟨[(8, w4), (9, w4), (5, w4), (2, w4), (3, w4), (4, w4), (6, w4), (7, w8), (10, w80)], [(8, mod4)]⟩
def tiL : List (Nat × TI) := [
  (112, { size := 1, row := false, zero := [U], int := some .u64 }),
  (134, { size := 4, row := true, zero := w4, arr := some (4, 1, false) }),
  (136, { size := 16, row := true, zero := w16, flds := some [(0, 4), (4, 4), (8, 4), (12, 4)] }),
  (3, { size := 1, row := false, zero := [.int .i64], int := some .i64 }),
  (5, { size := 1, row := false, zero := [B8], int := some .u8 }),
  (4, { size := 1, row := false, zero := [.bool], bl := true }),
  (23, { size := 1, row := false, zero := [.sl 1], sl := some 1, slz := [B8], u8 := true }),
  (166, { size := 1, row := false, zero := [.any], sl := some 1, slz := [U] }),
  (56, { size := 1, row := false, zero := [.any], sl := some 1, slz := [.sl 1] }),
  (22, { size := 32, row := true, zero := b32, arr := some (32, 1, false) }),
  (133, { size := 4, row := true, zero := w4, arr := some (4, 1, false) }),
  (183, { size := 8, row := true, zero := w8, arr := some (8, 1, false) }),
  (139, { size := 4, row := true, zero := w4, arr := some (4, 1, false) }),
  (111, { size := 1, row := false, zero := [U], int := some .u64 }),
  (197, { size := 80, row := true, zero := w80, arr := some (80, 1, false) }),
  (25, { size := 1, row := false, zero := [.int .i64], int := some .i64 }),
  (35, { size := 64, row := true, zero := b32 ++ b32, arr := some (64, 1, false) }),
  (28, { size := 32, row := true, zero := b32, arr := some (32, 1, false) }),
  (26, { size := 80, row := true, zero := b80, arr := some (80, 1, false) }),
  (30, { size := 64, row := true, zero := b32 ++ b32, flds := some [(0, 32), (32, 32)] }),
  (32, { size := 66, row := true, zero := proofK 256, flds := some [(0, 1), (1, 1), (2, 64)] }),
  (34, { size := 343, row := true, zero := foundK, flds := some [(0, 1), (1, 32), (33, 80), (113, 1), (114, 1), (115, 1), (116, 32), (148, 32), (180, 66), (246, 32), (278, 32), (310, 32), (342, 1)] }),
  (37, { size := 97, row := true, zero := signedK, flds := some [(0, 1), (1, 32), (33, 64)] }),
  (39, { size := 196, row := true, zero := underK, flds := some [(0, 66), (66, 97), (163, 32), (195, 1)] }),
  (43, { size := 35, row := true, zero := memberK, flds := some [(0, 1), (1, 1), (2, 1), (3, 32)] }),
  (45, { size := 646, row := true, zero := answerK, flds := some [(0, 1), (1, 1), (2, 1), (3, 343), (346, 32), (378, 1), (379, 196), (575, 1), (576, 1), (577, 35), (612, 1), (613, 32), (645, 1)] }),
  (121, { size := 3, row := true, zero := [.int .i64, .int .i64, .sl 1], flds := some [(0, 1), (1, 1), (2, 1)] }),
  (123, { size := 65, row := true, zero := .int .i64 :: b32 ++ b32, flds := some [(0, 1), (1, 32), (33, 32)] }),
  (66, { size := 2, row := true, zero := [.any, .bool], flds := some [(0, 1), (1, 1)] }),
  (118, { size := 2, row := true, zero := [.sl 1, .int .i64], flds := some [(0, 1), (1, 1)] }),
  (64, { size := 1, row := false, zero := [.any], ptr := true }),
  (61, { size := 1, row := false, zero := [.any], ptr := true }),
  (68, { size := 1, row := false, zero := [.any], ptr := true }),
  (27, { size := 1, row := false, zero := [.ow 32 256], sl := some 32, slz := b32 }),
  (40, { size := 1, row := false, zero := [.any], sl := some 3, slz := [.int .i64, .int .i64, .sl 1] }),
  (41, { size := 1, row := false, zero := [.any], sl := some 65, slz := .int .i64 :: b32 ++ b32 }),
  (170, { size := 1, row := false, zero := [.any], sl := some 16, slz := w16 }),
  (9, { size := 1, row := false, zero := [.any], str := true })]
def eqL : List (Nat × List K) := [(134, w4), (22, b32)]
noncomputable def cx (sg : List (Nat × List T × T)) : Ctx := ⟨Tryz.prog, gtL, tiL, eqL, sg⟩
theorem ti_all : (tiL.all fun x => chkTi Tryz.prog x.1 x.2) = true := by kernel_rfl
theorem size_one {e : TypeId} (h : (Tryz.prog.info? e).map (·.size) = some 1) (w : World) : (sizeOf e).run Tryz.prog w = .ok 1 w := by
  obtain ⟨i0, h1, h2⟩ := Option.map_eq_some_iff.1 h
  simp [sizeOf, typeInfo, h1, h2]
theorem cx_ok {sg : List (Nat × List T × T)} (h : ∀ x ∈ sg, SigOk Tryz.prog gtL x.1 x.2.1 x.2.2) : (cx sg).Ok := by
  refine ⟨by kernel_rfl, fun x hx => chkTi_ok (List.all_eq_true.1 ti_all x hx), fun x hx => ?_, h⟩
  simp only [cx, eqL, List.mem_cons, List.not_mem_nil, or_false] at hx
  rcases hx with rfl | rfl
  · exact eq_ok (n := 4) (k := .u64) (e := 112) Tryz.underlying134 Tryz.underlying112 (size_one (by kernel_rfl)) (by kernel_rfl)
  · exact eq_ok (n := 32) (k := .u8) (e := 5) Tryz.underlying22 Tryz.underlying5 (size_one (by kernel_rfl)) (by kernel_rfl)
theorem VTs.three {σ : S} {vs : Array Value} {a b c : T} (h : VTs σ vs.toList [a, b, c]) : ∃ x y z, vs = #[x, y, z] ∧ VT σ x a ∧ VT σ y b ∧ VT σ z c := by
  obtain ⟨vs⟩ := vs
  obtain ⟨h1, h2⟩ := h
  match vs, h1 with
  | [x, y, z], _ =>
    obtain ⟨x', e1, k1⟩ := h2 0 a rfl
    obtain ⟨y', e2, k2⟩ := h2 1 b rfl
    obtain ⟨z', e3, k3⟩ := h2 2 c rfl
    cases e1; cases e2; cases e3
    exact ⟨x, y, z, rfl, k1, k2, k3⟩
theorem VTs.two {σ : S} {vs : Array Value} {a b : T} (h : VTs σ vs.toList [a, b]) : ∃ x y, vs = #[x, y] ∧ VT σ x a ∧ VT σ y b := by
  obtain ⟨vs⟩ := vs
  obtain ⟨h1, h2⟩ := h
  match vs, h1 with
  | [x, y], _ =>
    obtain ⟨x', e1, k1⟩ := h2 0 a rfl
    obtain ⟨y', e2, k2⟩ := h2 1 b rfl
    cases e1; cases e2
    exact ⟨x, y, rfl, k1, k2⟩
theorem VTs.one {σ : S} {vs : Array Value} {a : T} (h : VTs σ vs.toList [a]) : ∃ x, vs = #[x] ∧ VT σ x a := by
  obtain ⟨vs⟩ := vs
  obtain ⟨h1, h2⟩ := h
  match vs, h1 with
  | [x], _ =>
    obtain ⟨x', e1, k1⟩ := h2 0 a rfl
    cases e1
    exact ⟨x, rfl, k1⟩
def sub64E : Array Value → Sem Value := fun args => do
  let (x, y, b) ← Extern.MathBitsCarry.three "Sub64" args
  pure (Extern.MathBitsCarry.pair ((x + Extern.MathBitsCarry.m64 - y - b) % Extern.MathBitsCarry.m64) (if x < y + b then 1 else 0))
theorem run_sub64E {P : Program} (x y b : Nat) (hb : b ≤ 1) (w : World) :
    (sub64E #[.int .u64 x, .int .u64 y, .int .u64 b]).run P w =
      .ok (.tuple #[.int .u64 (((x + 18446744073709551616 - y - b) % 18446744073709551616 : Nat) : Int), .int .u64 ((if x < y + b then 1 else 0 : Nat) : Int)]) w := by
  have : b = 0 ∨ b = 1 := by omega
  rcases this with rfl | rfl <;> rfl
theorem sub64_run (x y b : Nat) (hb : b ≤ 1) (w : World) : (callFunc 140 #[.int .u64 x, .int .u64 y, .int .u64 b]).run Tryz.prog w =
    .ok (.value (.tuple #[.int .u64 (((x + 18446744073709551616 - y - b) % 18446744073709551616 : Nat) : Int), .int .u64 ((if x < y + b then 1 else 0 : Nat) : Int)])) w := by
  rw [run_callFunc_extern Tryz.func140 (by kernel_rfl) (by kernel_rfl) (by kernel_rfl) (e := sub64E) (by kernel_rfl), run_sub64E x y b hb]
  rfl
theorem add64_run (x y c : Int) (hx : 0 ≤ x) (hy : 0 ≤ y) (hc0 : 0 ≤ c) (hc : c ≤ 1) (w : World) : (callFunc 127 #[.int .u64 x, .int .u64 y, .int .u64 c]).run Tryz.prog w =
    .ok (.value (.tuple #[.int .u64 ((x + y + c) % 18446744073709551616), .int .u64 ((x + y + c) / 18446744073709551616)])) w := by
  rw [run_callFunc_extern Tryz.func127 (by kernel_rfl) (by kernel_rfl) (by kernel_rfl) (e := add64Entry) (by kernel_rfl), run_add64 x y c hx hy hc0 hc]
  rfl
abbrev TU : T := .int .u64 0 18446744073709551615
abbrev TC : T := .int .u64 0 1
theorem add64_sig : SigOk Tryz.prog gtL 127 [TU, TU, TC] (.t2 TU TC) := by
  intro σ w vs hw hv
  obtain ⟨x, y, z, rfl, ⟨a, rfl, a1, a2⟩, ⟨b, rfl, b1, b2⟩, ⟨d, rfl, d1, d2⟩⟩ := hv.three
  exact .inl ⟨_, w, add64_run a b d a1 b1 d1 d2 w, .stay hw ⟨_, _, rfl, ⟨_, rfl, by omega, by omega⟩, ⟨_, rfl, by omega, by omega⟩⟩⟩
theorem sub64_sig : SigOk Tryz.prog gtL 140 [TU, TU, TC] (.t2 TU TC) := by
  intro σ w vs hw hv
  obtain ⟨x, y, z, rfl, ⟨a, rfl, a1, a2⟩, ⟨b, rfl, b1, b2⟩, ⟨d, rfl, d1, d2⟩⟩ := hv.three
  obtain ⟨a, rfl⟩ := Int.eq_ofNat_of_zero_le a1
  obtain ⟨b, rfl⟩ := Int.eq_ofNat_of_zero_le b1
  obtain ⟨d, rfl⟩ := Int.eq_ofNat_of_zero_le d1
  refine .inl ⟨_, w, sub64_run a b d (by omega) w, .stay hw ⟨_, _, rfl, ⟨_, rfl, by omega, by omega⟩, ⟨_, rfl, by omega, ?_⟩⟩⟩
  split <;> decide
def sg0 : List (Nat × List T × T) := [(127, [TU, TU, TC], .t2 TU TC), (140, [TU, TU, TC], .t2 TU TC)]
theorem sg0_ok : ∀ x ∈ sg0, SigOk Tryz.prog gtL x.1 x.2.1 x.2.2 := by
  intro x hx
  simp only [sg0, List.mem_cons, List.not_mem_nil, or_false] at hx
  rcases hx with rfl | rfl
  · exact add64_sig
  · exact sub64_sig
theorem more_ok {sg : List (Nat × List T × T)} (h : ∀ x ∈ sg, SigOk Tryz.prog gtL x.1 x.2.1 x.2.2) {f : Nat} {τs : List T} {τ : T} (hf : SigOk Tryz.prog gtL f τs τ) : ∀ x ∈ (f, τs, τ) :: sg, SigOk Tryz.prog gtL x.1 x.2.1 x.2.2 := by
  intro x hx
  rcases List.mem_cons.1 hx with rfl | hx
  · exact hf
  · exact h x hx
def E4 : T := .agg w4
def P16 : T := .agg w16
theorem esub_sig : SigOk Tryz.prog gtL 131 [E4, E4] (.t2 E4 TC) := sig_ok (cx_ok sg0_ok) 300 Tryz.func131 (by kernel_rfl)
end Ab
end Go.Proofs.YtmonkggoilhngaaGreatDoor
/- Signatures: sums and products of words. Plain; no condition. -/
namespace Go.Proofs.YtmonkggoilhngaaGreatDoor
open Go.RowKit
namespace Ab
def A32 : T := .agg b32
abbrev TI64 : T := .int .i64 (-9223372036854775808) 9223372036854775807
def s_esub : List (Nat × List T × T) := (131, [E4, E4], .t2 E4 TC) :: sg0
theorem s_esub_ok : ∀ x ∈ s_esub, SigOk Tryz.prog gtL x.1 x.2.1 x.2.2 := more_ok sg0_ok esub_sig
theorem eadd_sig : SigOk Tryz.prog gtL 130 [E4, E4] (.t2 E4 TC) := sig_ok (cx_ok s_esub_ok) 300 Tryz.func130 (by kernel_rfl)
def s_eadd : List (Nat × List T × T) := (130, [E4, E4], .t2 E4 TC) :: s_esub
theorem s_eadd_ok : ∀ x ∈ s_eadd, SigOk Tryz.prog gtL x.1 x.2.1 x.2.2 := more_ok s_esub_ok eadd_sig
theorem emore_sig : SigOk Tryz.prog gtL 129 [E4, TU] (E4) := sig_ok (cx_ok s_eadd_ok) 300 Tryz.func129 (by kernel_rfl)
def s_emore : List (Nat × List T × T) := (129, [E4, TU], E4) :: s_eadd
theorem s_emore_ok : ∀ x ∈ s_emore, SigOk Tryz.prog gtL x.1 x.2.1 x.2.2 := more_ok s_eadd_ok emore_sig
theorem mul64_sig : SigOk Tryz.prog gtL 126 [TU, TU] (.t2 TU TU) := sig_ok (cx_ok s_emore_ok) 300 Tryz.func126 (by kernel_rfl)
def s_mul64 : List (Nat × List T × T) := (126, [TU, TU], .t2 TU TU) :: s_emore
theorem s_mul64_ok : ∀ x ∈ s_mul64, SigOk Tryz.prog gtL x.1 x.2.1 x.2.2 := more_ok s_emore_ok mul64_sig
theorem prod_sig : SigOk Tryz.prog gtL 125 [E4, E4] (.agg w8) := sig_ok (cx_ok s_mul64_ok) 300 Tryz.func125 (by kernel_rfl)
def s_prod : List (Nat × List T × T) := (125, [E4, E4], .agg w8) :: s_mul64
theorem s_prod_ok : ∀ x ∈ s_prod, SigOk Tryz.prog gtL x.1 x.2.1 x.2.2 := more_ok s_mul64_ok prod_sig
end Ab
end Go.Proofs.YtmonkggoilhngaaGreatDoor

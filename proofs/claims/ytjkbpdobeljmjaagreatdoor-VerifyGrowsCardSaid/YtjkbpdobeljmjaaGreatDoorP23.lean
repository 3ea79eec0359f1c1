/- A part of the proof. Plain; no condition. -/
import Derived.Test.YtjkbpdobeljmjaaGreatDoorP22
import Derived.LoopN
/- A reckoning with kinds: code, and whole functions. Plain; no condition. -/
namespace Go.Proofs.YtjkbpdobeljmjaaGreatDoor
set_option linter.unusedVariables false
set_option linter.unusedSimpArgs false
open Go.RowKit
namespace Ab
structure Res where
  nrm : Option Env
  ret : Option Env
  ext : List (Nat × Env)
noncomputable def jo : Option Env → Option Env → Option Env
  | none, y => y
  | some x, none => some x
  | some x, some y => some (joinE x y)
noncomputable def ins : List (Nat × Env) → Nat → Env → List (Nat × Env)
  | [], i, Γ => [(i, Γ)]
  | (j, Δ) :: r, i, Γ => if j = i then (j, joinE Δ Γ) :: r else (j, Δ) :: ins r i Γ
noncomputable def je (xs : List (Nat × Env)) : List (Nat × Env) → List (Nat × Env)
  | [] => xs
  | (i, Γ) :: r => je (ins xs i Γ) r
def has (σ : S) (a : Act) (o : Option Env) : Prop := ∃ Γ, o = some Γ ∧ Typed σ a Γ
def hasE (σ : S) (a : Act) (i : Nat) (l : List (Nat × Env)) : Prop := ∃ Γ, (i, Γ) ∈ l ∧ Typed σ a Γ
theorem jo_l {σ : S} {a : Act} {x y : Option Env} (h : has σ a x) : has σ a (jo x y) := by
  obtain ⟨Γ, rfl, ht⟩ := h
  cases y with
  | none => exact ⟨Γ, rfl, ht⟩
  | some Δ => exact ⟨_, rfl, joinE_l ht⟩
theorem jo_r {σ : S} {a : Act} {x y : Option Env} (h : has σ a y) : has σ a (jo x y) := by
  obtain ⟨Γ, rfl, ht⟩ := h
  cases x with
  | none => exact ⟨Γ, rfl, ht⟩
  | some Δ => exact ⟨_, rfl, joinE_r ht⟩
theorem ins_l {σ : S} {a : Act} {i : Nat} {j : Nat} {Γ : Env} : ∀ {l : List (Nat × Env)}, hasE σ a i l → hasE σ a i (ins l j Γ)
  | (k, Δ) :: r, ⟨Λ, hm, ht⟩ => by
    unfold ins
    rcases List.mem_cons.1 hm with e | hm
    · cases e
      split
      · exact ⟨_, List.mem_cons_self .., joinE_l ht⟩
      · exact ⟨_, List.mem_cons_self .., ht⟩
    · split
      · exact ⟨Λ, List.mem_cons_of_mem _ hm, ht⟩
      · obtain ⟨Λ', hm', ht'⟩ := ins_l (j := j) (Γ := Γ) (l := r) ⟨Λ, hm, ht⟩
        exact ⟨Λ', List.mem_cons_of_mem _ hm', ht'⟩
theorem ins_r {σ : S} {a : Act} {j : Nat} {Γ : Env} (ht : Typed σ a Γ) : ∀ (l : List (Nat × Env)), hasE σ a j (ins l j Γ)
  | [] => ⟨Γ, List.mem_cons_self .., ht⟩
  | (k, Δ) :: r => by
    unfold ins
    split
    · rename_i e; subst e; exact ⟨_, List.mem_cons_self .., joinE_r ht⟩
    · obtain ⟨Λ', hm', ht'⟩ := ins_r ht r
      exact ⟨Λ', List.mem_cons_of_mem _ hm', ht'⟩
theorem je_l {σ : S} {a : Act} {i : Nat} : ∀ {ys xs : List (Nat × Env)}, hasE σ a i xs → hasE σ a i (je xs ys)
  | [], _, h => h
  | (j, Γ) :: r, xs, h => by unfold je; exact je_l (ins_l h)
theorem je_r {σ : S} {a : Act} {i : Nat} : ∀ {ys xs : List (Nat × Env)}, hasE σ a i ys → hasE σ a i (je xs ys)
  | (j, Γ) :: r, xs, ⟨Λ, hm, ht⟩ => by
    unfold je
    rcases List.mem_cons.1 hm with e | hm
    · cases e; exact je_l (ins_r ht xs)
    · exact je_r ⟨Λ, hm, ht⟩
def InR (σ : S) (a : Act) (r : Res) : Exit → Prop
  | .normal => has σ a r.nrm
  | .ret => has σ a r.ret
  | .exit i => hasE σ a i r.ext
  | _ => False
noncomputable def jr (r r' : Res) : Res := ⟨jo r.nrm r'.nrm, jo r.ret r'.ret, je r.ext r'.ext⟩
theorem jr_l {σ : S} {a : Act} {r r' : Res} {e : Exit} (h : InR σ a r e) : InR σ a (jr r r') e := by
  cases e <;> first | exact jo_l h | exact je_l h | exact h
theorem jr_r {σ : S} {a : Act} {r r' : Res} {e : Exit} (h : InR σ a r' e) : InR σ a (jr r r') e := by
  cases e <;> first | exact jo_r h | exact je_r h | exact h
noncomputable def absL (E : Env → Option Res) : Nat → Env → Option Res
  | 0, _ => none
  | n + 1, Γ => match E Γ with
    | none => none
    | some r => match r.nrm with
      | none => some r
      | some Γ' => Γ'.forceK fun Γ' => match absL E n Γ' with
        | none => none
        | some r' => some ⟨r'.nrm, jo r.ret r'.ret, je r.ext r'.ext⟩
noncomputable def joinAll : List Env → Option Env
  | [] => none
  | Γ :: r => jo (some Γ) (joinAll r)
noncomputable def outOf (i : Nat) : List (Nat × Env) → Option Env
  | [] => none
  | (j, Γ) :: r => if j = i then jo (some Γ) (outOf i r) else outOf i r
noncomputable def seqAll (E : Env → Option Res) : List Env → Option Res
  | [] => some ⟨none, none, []⟩
  | Γ :: r => match E Γ, seqAll E r with
    | some a, some b => some (jr a b)
    | _, _ => none
noncomputable def absK (c : Ctx) (N : Nat) : Code → Env → Option Res
  | .skip, Γ => some ⟨some Γ, none, []⟩
  | .label _, Γ => some ⟨some Γ, none, []⟩
  | .exit i, Γ => some ⟨none, none, [(i, Γ)]⟩
  | .ret, Γ => some ⟨none, some Γ, []⟩
  | .region _ ops draw, Γ => match draw with
    | true => match drawT c ops.toList Γ with
      | some Γ' => some ⟨some Γ', none, []⟩
      | none => none
    | false => match listT c ops.toList ops.toList 0 [] Γ with
      | some Γs => some ⟨joinAll Γs, none, []⟩
      | none => none
  | .seq (.region _ ops false) y, Γ => match listT c ops.toList ops.toList 0 [] Γ with
    | none => none
    | some Γs => seqAll (absK c N y) Γs
  | .seq x y, Γ => match absK c N x Γ with
    | none => none
    | some r => match r.nrm with
      | none => some r
      | some Γ' => match absK c N y Γ' with
        | none => none
        | some r' => some ⟨r'.nrm, jo r.ret r'.ret, je r.ext r'.ext⟩
  | .cond x y z, Γ => match ty c.gt Γ x with
    | .cb true => absK c N y Γ
    | .cb false => absK c N z Γ
    | .bool => match absK c N y Γ, absK c N z Γ with
      | some r, some r' => some (jr r r')
      | _, _ => none
    | _ => none
  | .block i x, Γ => match absK c N x Γ with
    | none => none
    | some r => some ⟨jo r.nrm (outOf i r.ext), r.ret, r.ext.filter fun y => y.1 != i⟩
  | .loop x, Γ => absL (absK c N x) N Γ
  | _, _ => none
def Out (c : Ctx) (σ : S) (w : World) (r : Res) (e : Exit) (a : Act) (w' : World) : Prop := ∃ σ', Go1 σ σ' w w' ∧ WT c.gt σ' w' ∧ InR σ' a r e
section
variable {c : Ctx} {σ : S} {w : World} {a : Act}
theorem outOf_ok {i : Nat} : ∀ {l : List (Nat × Env)}, hasE σ a i l → has σ a (outOf i l)
  | (j, Γ) :: r, ⟨Λ, hm, ht⟩ => by
    unfold outOf
    rcases List.mem_cons.1 hm with e | hm
    · cases e
      rw [if_pos rfl]
      exact jo_l ⟨_, rfl, ht⟩
    · split
      · exact jo_r (outOf_ok ⟨Λ, hm, ht⟩)
      · exact outOf_ok ⟨Λ, hm, ht⟩
theorem joinAll_ok : ∀ {l : List Env} {Γ : Env}, Γ ∈ l → Typed σ a Γ → has σ a (joinAll l)
  | Δ :: r, Γ, hm, ht => by
    unfold joinAll
    rcases List.mem_cons.1 hm with e | hm
    · subst e; exact jo_l ⟨_, rfl, ht⟩
    · exact jo_r (joinAll_ok hm ht)
end
theorem seqAll_ok {E : Env → Option Res} {σ : S} {a : Act} {e : Exit} : ∀ {Γs : List Env} {r : Res} {Γ : Env}, seqAll E Γs = some r → Γ ∈ Γs → ∃ r1, E Γ = some r1 ∧ (InR σ a r1 e → InR σ a r e)
  | Δ :: l, r, Γ, h, hm => by
    unfold seqAll at h
    split at h
    · rename_i x y h1 h2
      cases h
      rcases List.mem_cons.1 hm with rfl | hm
      · exact ⟨x, h1, jr_l⟩
      · obtain ⟨r1, k1, k2⟩ := seqAll_ok (σ := σ) (a := a) (e := e) h2 hm
        exact ⟨r1, k1, fun hh => jr_r (k2 hh)⟩
    · cases h
theorem seqAll_some {E : Env → Option Res} : ∀ {Γs : List Env} {r : Res} {Γ : Env}, seqAll E Γs = some r → Γ ∈ Γs → ∃ r1, E Γ = some r1 ∧ ∀ σ a e, InR σ a r1 e → InR σ a r e
  | Δ :: l, r, Γ, h, hm => by
    unfold seqAll at h
    split at h
    · rename_i x y h1 h2
      cases h
      rcases List.mem_cons.1 hm with rfl | hm
      · exact ⟨x, h1, fun _ _ _ => jr_l⟩
      · obtain ⟨r1, k1, k2⟩ := seqAll_some h2 hm
        exact ⟨r1, k1, fun σ a e hh => jr_r (k2 σ a e hh)⟩
    · cases h
def Sound (c : Ctx) (x : Code) (E : Env → Option Res) : Prop :=
  ∀ (Γ : Env) (r : Res) (σ : S) (a : Act) (w : World) (Q : Exit → Act → World → Prop), E Γ = some r → WT c.gt σ w → Typed σ a Γ → (∀ e a' w', Out c σ w r e a' w' → Q e a' w') → x.wp c.P Q a w
theorem loop_ok {c : Ctx} {x : Code} {E : Env → Option Res} (hx : Sound c x E) : ∀ (n : Nat) (Γ : Env) (r : Res) (σ : S) (a : Act) (w : World) (Q : Exit → Act → World → Prop), absL E n Γ = some r → WT c.gt σ w → Typed σ a Γ →
    (∀ e a' w', e ≠ .normal → Out c σ w r e a' w' → Q e a' w') → Code.rounds c.P x Q n a w
  | 0, Γ, r, σ, a, w, Q, h, _, _, _ => by simp [absL] at h
  | n + 1, Γ, r, σ, a, w, Q, h, hw, ht, hQ => by
    unfold absL at h
    rw [rounds_succ]
    cases hE : E Γ with
    | none => simp [hE] at h
    | some r1 =>
      simp only [hE] at h
      refine hx Γ r1 σ a w _ hE hw ht (fun e a' w' ho => ?_)
      obtain ⟨σ', g1, g2, g3⟩ := ho
      cases hn : r1.nrm with
      | none =>
        simp only [hn] at h
        cases h
        cases e with
        | normal => obtain ⟨Γ', h1, _⟩ := g3; rw [hn] at h1; cases h1
        | _ => exact hQ _ a' w' (by simp) ⟨σ', g1, g2, g3⟩
      | some Γ' =>
        simp only [hn, Env.forceK_eq] at h
        cases hL : absL E n Γ' with
        | none => simp [hL] at h
        | some r' =>
          simp only [hL] at h
          cases h
          cases e with
          | normal =>
            obtain ⟨Γ1, h1, ht'⟩ := g3
            rw [hn] at h1
            cases h1
            refine loop_ok hx n Γ' r' σ' a' w' Q hL g2 ht' (fun e a2 w2 hne ho => ?_)
            obtain ⟨σ2, k1, k2, k3⟩ := ho
            refine hQ e a2 w2 hne ⟨σ2, g1.trans k1, k2, ?_⟩
            cases e with
            | normal => exact absurd rfl hne
            | ret => exact jo_r k3
            | exit i => exact je_r k3
            | _ => exact k3
          | ret => exact hQ _ a' w' (by simp) ⟨σ', g1, g2, jo_l g3⟩
          | exit i => exact hQ _ a' w' (by simp) ⟨σ', g1, g2, je_l g3⟩
          | _ => exact g3.elim
theorem absK_ok {c : Ctx} (hc : c.Ok) (N : Nat) : ∀ x : Code, Sound c x (absK c N x) := by
  intro x
  induction x with
  | skip => intro Γ r σ a w Q h hw ht hQ; cases h; exact wp_skip (hQ _ _ _ ⟨σ, Go1.refl _ _, hw, Γ, rfl, ht⟩)
  | label l => intro Γ r σ a w Q h hw ht hQ; cases h; exact wp_label (hQ _ _ _ ⟨σ, Go1.refl _ _, hw, Γ, rfl, ht⟩)
  | exit i => intro Γ r σ a w Q h hw ht hQ; cases h; exact wp_exit (hQ _ _ _ ⟨σ, Go1.refl _ _, hw, Γ, List.mem_cons_self .., ht⟩)
  | ret => intro Γ r σ a w Q h hw ht hQ; cases h; exact wp_ret (hQ _ _ _ ⟨σ, Go1.refl _ _, hw, Γ, rfl, ht⟩)
  | region id ops draw =>
    intro Γ r σ a w Q h hw ht hQ
    cases draw with
    | true =>
      simp only [absK] at h
      split at h
      · rename_i Γ' hd
        cases h
        have := draw_ok hc (id := id) (Q := Q) hd hw ht (fun σ' a' w' g1 g2 g3 => hQ _ _ _ ⟨σ', g1, g2, Γ', rfl, g3⟩)
        simpa using this
      · cases h
    | false =>
      simp only [absK] at h
      split at h
      · rename_i Γs hd
        cases h
        refine wp_region_list ?_
        have := list_ok hc (Q := Q) ops.toList ops.toList 0 [] Γ Γs σ a w hd hw ht (fun _ h => nomatch h) (fun σ' a' w' g1 g2 g3 => by
          obtain ⟨Γ', hm, ht'⟩ := g3
          exact hQ _ _ _ ⟨σ', g1, g2, joinAll_ok hm ht'⟩)
        simpa using this
      · cases h
  | seq x y ihx ihy =>
    intro Γ r σ a w Q h hw ht hQ
    by_cases hreg : ∃ id ops, x = .region id ops false
    · obtain ⟨id, ops, rfl⟩ := hreg
      simp only [absK] at h
      split at h
      · cases h
      · rename_i Γs hd
        refine wp_seq (wp_region_list ?_)
        have := list_ok hc (Q := Exit.then (y.wp c.P Q) Q) ops.toList ops.toList 0 [] Γ Γs σ a w hd hw ht (fun _ h => nomatch h) (fun σ' a' w' g1 g2 g3 => by
          obtain ⟨Γ', hm, ht'⟩ := g3
          obtain ⟨r1, k1, k2⟩ := seqAll_some h hm
          exact ihy Γ' r1 σ' a' w' Q k1 g2 ht' (fun e a2 w2 ho => by
            obtain ⟨σ2, l1, l2, l3⟩ := ho
            exact hQ e a2 w2 ⟨σ2, g1.trans l1, l2, k2 _ _ _ l3⟩))
        simpa using this
    have h' : (match absK c N x Γ with
      | none => none
      | some r => match r.nrm with
        | none => some r
        | some Γ' => match absK c N y Γ' with
          | none => none
          | some r' => some ⟨r'.nrm, jo r.ret r'.ret, je r.ext r'.ext⟩) = some r := by
      rw [← h]
      cases x with
      | region id ops draw =>
        cases draw with
        | true => rfl
        | false => exact absurd ⟨id, ops, rfl⟩ hreg
      | _ => rfl
    clear h hreg
    have h := h'
    clear h'
    split at h
    · cases h
    · rename_i r1 h1
      refine wp_seq (ihx Γ r1 σ a w _ h1 hw ht (fun e a' w' ho => ?_))
      obtain ⟨σ', g1, g2, g3⟩ := ho
      split at h
      · rename_i hn
        cases h
        cases e with
        | normal => obtain ⟨Γ', h2, _⟩ := g3; rw [hn] at h2; cases h2
        | _ => exact hQ _ a' w' ⟨σ', g1, g2, g3⟩
      · rename_i Γ' hn
        split at h
        · cases h
        · rename_i r' h2
          cases h
          cases e with
          | normal =>
            obtain ⟨Γ1, h3, ht'⟩ := g3
            rw [hn] at h3
            cases h3
            refine ihy Γ' r' σ' a' w' Q h2 g2 ht' (fun e a2 w2 ho => ?_)
            obtain ⟨σ2, k1, k2, k3⟩ := ho
            refine hQ e a2 w2 ⟨σ2, g1.trans k1, k2, ?_⟩
            cases e with
            | ret => exact jo_r k3
            | exit i => exact je_r k3
            | _ => exact k3
          | ret => exact hQ _ a' w' ⟨σ', g1, g2, jo_l g3⟩
          | exit i => exact hQ _ a' w' ⟨σ', g1, g2, je_l g3⟩
          | _ => exact g3.elim
  | cond x y z ihy ihz =>
    intro Γ r σ a w Q h hw ht hQ
    have hx := ty_ok hw ht x
    simp only [absK] at h
    split at h
    · rename_i hb; rw [hb] at hx; exact wp_cond_true hx (ihy Γ r σ a w Q h hw ht hQ)
    · rename_i hb; rw [hb] at hx; exact wp_cond_false hx (ihz Γ r σ a w Q h hw ht hQ)
    · rename_i hb
      rw [hb] at hx
      obtain ⟨b, hx⟩ := hx
      split at h
      · rename_i r1 r2 h1 h2
        cases h
        refine wp_cond_split hx (fun _ => ihy Γ r1 σ a w Q h1 hw ht (fun e a' w' ho => ?_)) (fun _ => ihz Γ r2 σ a w Q h2 hw ht (fun e a' w' ho => ?_))
        · obtain ⟨σ', g1, g2, g3⟩ := ho; exact hQ _ _ _ ⟨σ', g1, g2, jr_l g3⟩
        · obtain ⟨σ', g1, g2, g3⟩ := ho; exact hQ _ _ _ ⟨σ', g1, g2, jr_r g3⟩
      · cases h
    · cases h
  | block i x ih =>
    intro Γ r σ a w Q h hw ht hQ
    simp only [absK] at h
    split at h
    · cases h
    · rename_i r1 h1
      cases h
      refine wp_block (ih Γ r1 σ a w _ h1 hw ht (fun e a' w' ho => ?_))
      obtain ⟨σ', g1, g2, g3⟩ := ho
      cases e with
      | normal => exact hQ _ _ _ ⟨σ', g1, g2, jo_l g3⟩
      | ret => exact hQ _ _ _ ⟨σ', g1, g2, g3⟩
      | exit j =>
        show (if j = i then Q .normal a' w' else Q (.exit j) a' w')
        split
        · rename_i e; subst e; exact hQ _ _ _ ⟨σ', g1, g2, jo_r (outOf_ok g3)⟩
        · rename_i hne
          obtain ⟨Λ, hm, hl⟩ := g3
          exact hQ _ _ _ ⟨σ', g1, g2, Λ, by rw [List.mem_filter]; exact ⟨hm, by simpa using hne⟩, hl⟩
      | _ => exact g3.elim
  | loop x ih =>
    intro Γ r σ a w Q h hw ht hQ
    simp only [absK] at h
    exact wp_loop_rounds N (loop_ok ih N Γ r σ a w Q h hw ht (fun e a' w' _ ho => hQ e a' w' ho))
  | _ => intro Γ r σ a w Q h hw ht hQ; simp [absK] at h
noncomputable def resT (c : Ctx) (Γ : Env) : ResultVar → Option T
  | .tmp t => Γ.at t
  | .cell t y => match Γ.at t, c.t y with
    | some (.ptr _ l off), some i => if i.row then (if off + i.size ≤ l.length then some (.agg (seg l off i.size)) else none) else (l[off]?).map ofK
    | _, _ => none
def resS (tmps : Array Value) : ResultVar → Sem Value
  | .tmp t => pure (tmps.getD t undef)
  | .cell u t => do loadVar t (← asAddr (tmps.getD u undef))
theorem results_eq (fn : Func) (tmps : Array Value) : results fn tmps = (do let vs ← fn.results.mapM (resS tmps); pure (if h : vs.size = 1 then vs[0] else .tuple vs)) := rfl
theorem resT_ok {c : Ctx} (hc : c.Ok) {σ : S} {w : World} {a : Act} {Γ : Env} (hw : WT c.gt σ w) (ht : Typed σ a Γ) {x : ResultVar} {τ : T} (h : resT c Γ x = some τ) :
    ∃ v, (resS a.tmps x).run c.P w = .ok v w ∧ VT σ v τ := by
  cases x with
  | tmp t => exact ⟨_, rfl, ht.2.2 t τ h⟩
  | cell u t =>
    simp only [resT] at h
    split at h
    · rename_i m l off i h1 h2
      have hv := ht.2.2 u _ h1
      obtain ⟨b, m', he, hb, hm⟩ := hv
      have hv' : VT σ (.pointer (some ⟨b, off, none⟩)) (.ptr m l off) := ⟨b, m', rfl, hb, hm⟩
      obtain ⟨v, w', hr, σ', g1, g2, g3⟩ := load_ok hc hw h2 hv' h
      obtain ⟨C, t', f, hh, hf, hC⟩ := hw.blk b m' l hb
      have hw' : w' = w ∧ VT σ v τ := by
        -- the load leaves the world
        have key : ∀ (ρ : T), (if i.row then (if off + i.size ≤ l.length then some (T.agg (seg l off i.size)) else none) else (l[off]?).map ofK) = some ρ → ∃ v, (Instr.loadAt t (.pointer (some ⟨b, off, none⟩))).run c.P w = .ok v w ∧ VT σ v ρ := by
          intro ρ hρ
          obtain ⟨it, z, d, hit, hsz, _, _, hu, hrw⟩ := (hc.t h2).info
          split at hρ
          · rename_i hrow
            split at hρ
            · rename_i hle
              cases hρ
              have hs := hC.seg off i.size
              have hl : ((C.toList.drop off).take i.size).length = i.size := by have := hC.1; simp at this ⊢; omega
              have hrun := run_loadAt_mid (P := c.P) w b off t ((C.toList.drop off).take i.size) d (fun j u hj => by
                rw [cell_of_row w b _ _ _ _ hh]
                rw [List.getElem?_take] at hj
                split at hj
                · rw [List.getElem?_drop] at hj
                  simpa using hj
                · cases hj) hu (hrw.trans hrow) (by rw [hit]; simp [hsz, hl])
              exact ⟨_, hrun, _, rfl, hs⟩
            · cases hρ
          · rename_i hrow
            cases hl : l[off]? with
            | none => simp [hl] at hρ
            | some κ =>
              simp only [hl, Option.map_some, Option.some.injEq] at hρ
              subst hρ
              obtain ⟨u, hu1, hu2⟩ := hC.2 off κ hl
              have hcell : w.cell? ⟨b, off, none⟩ = some u := by rw [cell_of_row w b _ _ _ _ hh]; simpa using hu1
              refine ⟨u, ?_, ofK_ok hu2⟩
              have hd : d.isRow = false := by rw [hrw]; simpa using hrow
              cases d <;> first | (simp at hd; done) | simp [Instr.loadAt, Instr.sureAddr, loadVar, isAgg, run_underlying hu, hcell]
        obtain ⟨v', hr', hv''⟩ := key τ h
        rw [hr] at hr'
        cases hr'
        exact ⟨rfl, hv''⟩
      obtain ⟨rfl, hv''⟩ := hw'
      refine ⟨v, ?_, hv''⟩
      unfold resS
      simp only [he, asAddr, Sem.run_bind, Sem.run_pure, Result.andThen_ok]
      simpa [Instr.loadAt, Instr.sureAddr] using hr
    · cases h
noncomputable def resTs (c : Ctx) (Γ : Env) : List ResultVar → Option T
  | [] => some .any
  | [x] => resT c Γ x
  | [x, y] => match resT c Γ x, resT c Γ y with
    | some a, some b => some (.t2 a b)
    | _, _ => none
  | [x, y, z] => match resT c Γ x, resT c Γ y, resT c Γ z with
    | some a, some b, some d => some (.t3 a b d)
    | _, _, _ => none
  | _ => none
theorem resTs_ok {c : Ctx} (hc : c.Ok) {σ : S} {w : World} {a : Act} {Γ : Env} (hw : WT c.gt σ w) (ht : Typed σ a Γ) (fn : Func) {τ : T} (h : resTs c Γ fn.results.toList = some τ) :
    ∃ v, (results fn a.tmps).run c.P w = .ok v w ∧ VT σ v τ := by
  obtain ⟨rs, hrs⟩ : ∃ rs, rs = fn.results.toList := ⟨_, rfl⟩
  have hre : fn.results = rs.toArray := by rw [hrs]
  rw [← hrs] at h
  unfold resTs at h
  split at h
  · cases h
    refine ⟨.tuple #[], ?_, trivial⟩
    simp [results_eq, hre]
  · rename_i x
    obtain ⟨v, h1, h2⟩ := resT_ok hc hw ht h
    refine ⟨v, ?_, h2⟩
    simp only [results_eq, hre, List.mapM_toArray, List.mapM_cons, List.mapM_nil]
    simp [Sem.run_bind, h1]
  · rename_i x y
    split at h
    · rename_i τ1 τ2 e1 e2
      cases h
      obtain ⟨v, h1, h2⟩ := resT_ok hc hw ht e1
      obtain ⟨v', h1', h2'⟩ := resT_ok hc hw ht e2
      refine ⟨.tuple #[v, v'], ?_, v, v', rfl, h2, h2'⟩
      simp only [results_eq, hre, List.mapM_toArray, List.mapM_cons, List.mapM_nil]
      simp [Sem.run_bind, h1, h1']
    · cases h
  · rename_i x y z
    split at h
    · rename_i τ1 τ2 τ3 e1 e2 e3
      cases h
      obtain ⟨v, h1, h2⟩ := resT_ok hc hw ht e1
      obtain ⟨v', h1', h2'⟩ := resT_ok hc hw ht e2
      obtain ⟨v'', h1'', h2''⟩ := resT_ok hc hw ht e3
      refine ⟨.tuple #[v, v', v''], ?_, v, v', v'', rfl, h2, h2', h2''⟩
      simp only [results_eq, hre, List.mapM_toArray, List.mapM_cons, List.mapM_nil]
      simp [Sem.run_bind, h1, h1', h1'']
    · cases h
  · cases h
noncomputable def env0 (n : Nat) : Nat → List T → Env
  | _, [] => ⟨n, .nil⟩
  | k, τ :: τs => (env0 n (k + 1) τs).set k τ
theorem env0_length (n : Nat) : ∀ (k : Nat) (τs : List T), (env0 n k τs).length = n
  | _, [] => rfl
  | k, _ :: τs => env0_length n (k + 1) τs
theorem env0_at (n : Nat) : ∀ (τs : List T) (k t : Nat) (τ : T), (env0 n k τs).at t = some τ → k ≤ t ∧ τs[t - k]? = some τ
  | [], k, t, τ, h => by
    have hlt := Env.lt h
    unfold env0 at h hlt
    rw [Env.at_ok hlt, Tr.get_nil] at h
    cases h
  | x :: τs, k, t, τ, h => by
    have hlt := Env.lt h
    unfold env0 at h hlt
    by_cases e : k = t
    · subst e
      rw [Env.set_self (by exact hlt)] at h
      cases h
      exact ⟨Nat.le_refl _, by simp⟩
    · rw [Env.set_ne e] at h
      obtain ⟨h1, h2⟩ := env0_at n τs (k + 1) t τ h
      refine ⟨by omega, ?_⟩
      rw [show t - k = (t - (k + 1)) + 1 by omega, List.getElem?_cons_succ]
      exact h2
noncomputable def absF (c : Ctx) (N : Nat) (fn : Func) (τs : List T) : Option T :=
  match fn.body with
  | none => none
  | some x => match absK c N x (env0 fn.ntmps 0 τs) with
    | none => none
    | some r => if r.ext.isEmpty then (match jo r.nrm r.ret with | some Γ => resTs c Γ fn.results.toList | none => none) else none
noncomputable def chkF (c : Ctx) (N : Nat) (fn : Func) (τs : List T) (τ : T) : Bool :=
  !(fn.name == "runtime.NumGoroutine") && (match absF c N fn τs with | some ρ => sub ρ τ | none => false)
theorem sig_calls {c : Ctx} (hc : c.Ok) {f : FuncId} {fn : Func} (N : Nat) (hf : c.P.funcs[f]? = some fn) {τs : List T} {τ : T} (h : chkF c N fn τs τ = true) {σ : S} {w : World} {vs : Array Value} (hw : WT c.gt σ w) (hvs : VTs σ vs.toList τs) :
    (callFunc f vs).run c.P w = .ok (.enter f vs) w ∧ Calls c.P f vs w fun e w' => ∃ v, e = .returned v ∧ Ans c.gt σ w v w' τ := by
  unfold chkF at h
  rw [Bool.and_eq_true, Bool.not_eq_true'] at h
  obtain ⟨hname, h⟩ := h
  cases hF : absF c N fn τs with
  | none => simp [hF] at h
  | some ρ =>
    simp only [hF] at h
    unfold absF at hF
    cases hb : fn.body with
    | none => simp [hb] at hF
    | some x =>
      simp only [hb] at hF
      cases hK : absK c N x (env0 fn.ntmps 0 τs) with
      | none => simp [hK] at hF
      | some r =>
        simp only [hK] at hF
        split at hF
        · rename_i hext
          have h1 : fn.name ≠ "runtime.NumGoroutine" := by simpa using hname
          refine ⟨by simp [callFunc, hf, h1, hb, mark], ?_⟩
          have hlen := hvs.1
          simp only [Array.length_toList] at hlen
          refine calls_of_wp hf hb ?_
          refine absK_ok hc N x _ r σ _ w _ hK hw ?_ (fun e a w' ho => ?_)
          · refine ⟨by rw [env0_length]; simp; omega, rfl, fun t τ' ht => ?_⟩
            · obtain ⟨_, ht⟩ := env0_at _ _ _ _ _ ht
              rw [Nat.sub_zero] at ht
              obtain ⟨v, hv1, hv2⟩ := hvs.2 t τ' ht
              have hlt : t < vs.size := by
                have := (List.getElem?_eq_some_iff.1 ht).1
                omega
              have : (vs ++ Array.replicate (fn.ntmps - vs.size) undef).getD t undef = v := by
                rw [Array.getD_eq_getD_getElem?, Array.getElem?_append_left hlt]
                have : vs[t]? = some v := by simpa using hv1
                rw [this]
                rfl
              rw [this]
              exact hv2
          · obtain ⟨σ', g1, g2, g3⟩ := ho
            have fin : ∀ (o : has σ' a (jo r.nrm r.ret)), a.defers = [] ∧ ∃ v, (results fn a.tmps).run c.P w' = .ok v w' ∧ (∃ v', Ending.returned v = Ending.returned v' ∧ Ans c.gt σ w v' w' τ) := by
              rintro ⟨Γ, hΓ, ht⟩
              rw [hΓ] at hF
              obtain ⟨v, hv1, hv2⟩ := resTs_ok hc g2 ht fn hF
              exact ⟨ht.2.1, v, hv1, v, rfl, σ', g1, g2, sub_ok _ _ hv2 h⟩
            cases e with
            | normal => exact fin (jo_l g3)
            | ret => exact fin (jo_r g3)
            | exit i =>
              obtain ⟨Λ, hm, _⟩ := g3
              rw [List.isEmpty_iff.1 hext] at hm
              cases hm
            | _ => exact g3.elim
        · cases hF
theorem sig_ok {c : Ctx} (hc : c.Ok) {f : FuncId} {fn : Func} (N : Nat) (hf : c.P.funcs[f]? = some fn) {τs : List T} {τ : T} (h : chkF c N fn τs τ = true) : SigOk c.P c.gt f τs τ :=
  fun _ _ _ hw hvs => .inr (sig_calls hc N hf h hw hvs)
end Ab
end Go.Proofs.YtjkbpdobeljmjaaGreatDoor


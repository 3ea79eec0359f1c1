/- A part of the proof. Plain; no condition. -/
import Derived.Test.YtfodadedkilgdaaGreatDoorP19
import Derived.LoopN
namespace Go.Proofs.YtfodadedkilgdaaGreatDoor
set_option linter.unusedVariables false
set_option linter.unusedSimpArgs false
open Go.RowKit
namespace Ab
structure Res where
 nrm:Option Env
 ret:Option Env
 ext:List (Nat×Env)
noncomputable def jo:Option Env→Option Env→Option Env
 | none,y=>y
 | some x,none=>some x
 | some x,some y=>some (joinE x y)
noncomputable def ins:List (Nat×Env)→Nat→Env→List (Nat×Env)
 | [],i,Γ => [(i,Γ)]
 | (j,Δ)::r,i,Γ=>if j=i then (j,joinE Δ Γ)::r else (j,Δ)::ins r i Γ
noncomputable def je (xs:List (Nat×Env)):List (Nat×Env)→List (Nat×Env)
 | []=>xs
 | (i,Γ)::r=>je (ins xs i Γ) r
def has (σ:S) (a:Act) (o:Option Env):Prop := ∃ Γ,o=some Γ∧Typed σ a Γ
def hasE (σ:S) (a:Act) (i:Nat) (l:List (Nat×Env)):Prop := ∃ Γ,(i,Γ)∈l∧Typed σ a Γ
theorem jo_l {σ:S} {a:Act} {x y:Option Env} (h:has σ a x):has σ a (jo x y):=by
 obtain ⟨Γ,rfl,ht⟩:=h
 cases y with
 | none=>exact ⟨Γ,rfl,ht⟩
 | some Δ=>exact ⟨_,rfl,joinE_l ht⟩
theorem jo_r {σ:S} {a:Act} {x y:Option Env} (h:has σ a y):has σ a (jo x y):=by
 obtain ⟨Γ,rfl,ht⟩:=h
 cases x with
 | none=>exact ⟨Γ,rfl,ht⟩
 | some Δ=>exact ⟨_,rfl,joinE_r ht⟩
theorem ins_l {σ:S} {a:Act} {i:Nat} {j:Nat} {Γ:Env} : ∀ {l:List (Nat×Env)},hasE σ a i l→hasE σ a i (ins l j Γ)
 | (k,Δ)::r,⟨Λ,hm,ht⟩=>by
   unfold ins
   rcases List.mem_cons.1 hm with e | hm
   ·cases e
    split
    · exact ⟨_,List.mem_cons_self ..,joinE_l ht⟩
    · exact ⟨_,List.mem_cons_self ..,ht⟩
   ·split
    · exact ⟨Λ,List.mem_cons_of_mem _ hm,ht⟩
    ·obtain ⟨Λ',hm',ht'⟩:=ins_l (j:=j) (Γ:=Γ) (l:=r) ⟨Λ,hm,ht⟩
     exact ⟨Λ',List.mem_cons_of_mem _ hm',ht'⟩
theorem ins_r {σ:S} {a:Act} {j:Nat} {Γ:Env} (ht:Typed σ a Γ) : ∀ (l:List (Nat×Env)),hasE σ a j (ins l j Γ)
 | []=>⟨Γ,List.mem_cons_self ..,ht⟩
 | (k,Δ)::r=>by
   unfold ins
   split
   · rename_i e; subst e; exact ⟨_,List.mem_cons_self ..,joinE_r ht⟩
   ·obtain ⟨Λ',hm',ht'⟩:=ins_r ht r
    exact ⟨Λ',List.mem_cons_of_mem _ hm',ht'⟩
theorem je_l {σ:S} {a:Act} {i:Nat} : ∀ {ys xs:List (Nat×Env)},hasE σ a i xs→hasE σ a i (je xs ys)
 | [],_,h=>h
 | (j,Γ)::r,xs,h=>by unfold je; exact je_l (ins_l h)
theorem je_r {σ:S} {a:Act} {i:Nat} : ∀ {ys xs:List (Nat×Env)},hasE σ a i ys→hasE σ a i (je xs ys)
 | (j,Γ)::r,xs,⟨Λ,hm,ht⟩=>by
   unfold je
   rcases List.mem_cons.1 hm with e | hm
   · cases e; exact je_l (ins_r ht xs)
   · exact je_r ⟨Λ,hm,ht⟩
def InR (σ:S) (a:Act) (r:Res):Exit→Prop
 | .normal=>has σ a r.nrm
 | .ret=>has σ a r.ret
 | .exit i=>hasE σ a i r.ext
 | _=>False
noncomputable def jr (r r':Res):Res:=⟨jo r.nrm r'.nrm,jo r.ret r'.ret,je r.ext r'.ext⟩
theorem jr_l {σ:S} {a:Act} {r r':Res} {e:Exit} (h:InR σ a r e):InR σ a (jr r r') e:=by
 cases e <;> first | exact jo_l h | exact je_l h | exact h
theorem jr_r {σ:S} {a:Act} {r r':Res} {e:Exit} (h:InR σ a r' e):InR σ a (jr r r') e:=by
 cases e <;> first | exact jo_r h | exact je_r h | exact h
noncomputable def absL (E:Env→Option Res):Nat→Env→Option Res
 | 0,_=>none
 | n+1,Γ=>match E Γ with
   | none=>none
   | some r=>match r.nrm with
     | none=>some r
     | some Γ'=>Γ'.forceK fun Γ'=>match absL E n Γ' with
       | none=>none
       | some r'=>some ⟨r'.nrm,jo r.ret r'.ret,je r.ext r'.ext⟩
noncomputable def joinAll:List Env→Option Env
 | []=>none
 | Γ::r=>jo (some Γ) (joinAll r)
noncomputable def outOf (i:Nat):List (Nat×Env)→Option Env
 | []=>none
 | (j,Γ)::r=>if j=i then jo (some Γ) (outOf i r) else outOf i r
noncomputable def seqAll (E:Env→Option Res):List Env→Option Res
 | []=>some ⟨none,none,[]⟩
 | Γ::r=>match E Γ,seqAll E r with
   | some a,some b=>some (jr a b)
   | _,_=>none
noncomputable def absK (c:Ctx) (N:Nat):Code→Env→Option Res
 | .skip,Γ=>some ⟨some Γ,none,[]⟩
 | .label _,Γ=>some ⟨some Γ,none,[]⟩
 | .exit i,Γ=>some ⟨none,none,[(i,Γ)]⟩
 | .ret,Γ=>some ⟨none,some Γ,[]⟩
 | .region _ ops draw,Γ=>match draw with
   | true=>match drawT c ops.toList Γ with
     | some Γ'=>some ⟨some Γ',none,[]⟩
     | none=>none
   | false=>match listT c ops.toList ops.toList 0 [] Γ with
     | some Γs=>some ⟨joinAll Γs,none,[]⟩
     | none=>none
 | .seq (.region _ ops false) y,Γ=>match listT c ops.toList ops.toList 0 [] Γ with
   | none=>none
   | some Γs=>seqAll (absK c N y) Γs
 | .seq x y,Γ=>match absK c N x Γ with
   | none=>none
   | some r=>match r.nrm with
     | none=>some r
     | some Γ'=>match absK c N y Γ' with
       | none=>none
       | some r'=>some ⟨r'.nrm,jo r.ret r'.ret,je r.ext r'.ext⟩
 | .cond x y z,Γ=>match ty c.gt Γ x with
   | .cb true=>absK c N y Γ
   | .cb false=>absK c N z Γ
   | .bool=>match absK c N y Γ,absK c N z Γ with
     | some r,some r'=>some (jr r r')
     | _,_=>none
   | _=>none
 | .block i x,Γ=>match absK c N x Γ with
   | none=>none
   | some r=>some ⟨jo r.nrm (outOf i r.ext),r.ret,r.ext.filter fun y=>y.1 != i⟩
 | .loop x,Γ=>absL (absK c N x) N Γ
 | _,_=>none
def Out (c:Ctx) (σ:S) (w:World) (r:Res) (e:Exit) (a:Act) (w':World):Prop := ∃ σ',Gx c σ σ' w w'∧WT c.gt σ' w'∧InR σ' a r e
section
variable {c:Ctx} {σ:S} {w:World} {a:Act}
theorem outOf_ok {i:Nat} : ∀ {l:List (Nat×Env)},hasE σ a i l→has σ a (outOf i l)
 | (j,Γ)::r,⟨Λ,hm,ht⟩=>by
   unfold outOf
   rcases List.mem_cons.1 hm with e | hm
   ·cases e
    rw [if_pos rfl]
    exact jo_l ⟨_,rfl,ht⟩
   ·split
    · exact jo_r (outOf_ok ⟨Λ,hm,ht⟩)
    · exact outOf_ok ⟨Λ,hm,ht⟩
theorem joinAll_ok : ∀ {l:List Env} {Γ:Env},Γ∈l→Typed σ a Γ→has σ a (joinAll l)
 | Δ::r,Γ,hm,ht=>by
   unfold joinAll
   rcases List.mem_cons.1 hm with e | hm
   · subst e; exact jo_l ⟨_,rfl,ht⟩
   · exact jo_r (joinAll_ok hm ht)
end
theorem seqAll_ok {E:Env→Option Res} {σ:S} {a:Act} {e:Exit} : ∀ {Γs:List Env} {r:Res} {Γ:Env},seqAll E Γs=some r→Γ∈Γs → ∃ r1,E Γ=some r1∧(InR σ a r1 e→InR σ a r e)
 | Δ::l,r,Γ,h,hm=>by
   unfold seqAll at h
   split at h
   ·rename_i x y h1 h2
    cases h
    rcases List.mem_cons.1 hm with rfl | hm
    · exact ⟨x,h1,jr_l⟩
    ·obtain ⟨r1,k1,k2⟩:=seqAll_ok (σ:=σ) (a:=a) (e:=e) h2 hm
     exact ⟨r1,k1,fun hh=>jr_r (k2 hh)⟩
   · cases h
theorem seqAll_some {E:Env→Option Res} : ∀ {Γs:List Env} {r:Res} {Γ:Env},seqAll E Γs=some r→Γ∈Γs → ∃ r1,E Γ=some r1 ∧ ∀ σ a e,InR σ a r1 e→InR σ a r e
 | Δ::l,r,Γ,h,hm=>by
   unfold seqAll at h
   split at h
   ·rename_i x y h1 h2
    cases h
    rcases List.mem_cons.1 hm with rfl | hm
    · exact ⟨x,h1,fun _ _ _=>jr_l⟩
    ·obtain ⟨r1,k1,k2⟩:=seqAll_some h2 hm
     exact ⟨r1,k1,fun σ a e hh=>jr_r (k2 σ a e hh)⟩
   · cases h
def Sound (c:Ctx) (x:Code) (E:Env→Option Res):Prop :=
 ∀ (Γ:Env) (r:Res) (σ:S) (a:Act) (w:World) (Q:Exit→Act→World→Prop),E Γ=some r→WT c.gt σ w→Typed σ a Γ→(∀ e a' w',Out c σ w r e a' w'→Q e a' w')→x.wp c.P Q a w
theorem loop_ok {c:Ctx} {x:Code} {E:Env→Option Res} (hx:Sound c x E) : ∀ (n:Nat) (Γ:Env) (r:Res) (σ:S) (a:Act) (w:World) (Q:Exit→Act→World→Prop),absL E n Γ=some r→WT c.gt σ w→Typed σ a Γ →
 (∀ e a' w',e ≠ .normal→Out c σ w r e a' w'→Q e a' w')→Code.rounds c.P x Q n a w
 | 0,Γ,r,σ,a,w,Q,h,_,_,_=>by simp [absL] at h
 | n+1,Γ,r,σ,a,w,Q,h,hw,ht,hQ=>by
   unfold absL at h
   rw [rounds_succ]
   cases hE:E Γ with
   | none=>simp [hE] at h
   | some r1 =>
     simp only [hE] at h
     refine hx Γ r1 σ a w _ hE hw ht (fun e a' w' ho => ?_)
     obtain ⟨σ',g1,g2,g3⟩:=ho
     cases hn:r1.nrm with
     | none =>
       simp only [hn] at h
       cases h
       cases e with
       | normal=>obtain ⟨Γ',h1,_⟩:=g3; rw [hn] at h1; cases h1
       | _=>exact hQ _ a' w' (by simp) ⟨σ',g1,g2,g3⟩
     | some Γ' =>
       simp only [hn,Env.forceK_eq] at h
       cases hL:absL E n Γ' with
       | none=>simp [hL] at h
       | some r' =>
         simp only [hL] at h
         cases h
         cases e with
         | normal =>
           obtain ⟨Γ1,h1,ht'⟩:=g3
           rw [hn] at h1
           cases h1
           refine loop_ok hx n Γ' r' σ' a' w' Q hL g2 ht' (fun e a2 w2 hne ho => ?_)
           obtain ⟨σ2,k1,k2,k3⟩:=ho
           refine hQ e a2 w2 hne ⟨σ2,g1.trans k1,k2,?_⟩
           cases e with
           | normal=>exact absurd rfl hne
           | ret=>exact jo_r k3
           | exit i=>exact je_r k3
           | _=>exact k3
         | ret=>exact hQ _ a' w' (by simp) ⟨σ',g1,g2,jo_l g3⟩
         | exit i=>exact hQ _ a' w' (by simp) ⟨σ',g1,g2,je_l g3⟩
         | _=>exact g3.elim
theorem absK_ok {c:Ctx} (hc:c.Ok) (N:Nat) : ∀ x:Code,Sound c x (absK c N x):=by
 intro x
 induction x with
 | skip=>intro Γ r σ a w Q h hw ht hQ; cases h; exact wp_skip (hQ _ _ _ ⟨σ,Gx.of1 (Go1.refl _ _),hw,Γ,rfl,ht⟩)
 | label l=>intro Γ r σ a w Q h hw ht hQ; cases h; exact wp_label (hQ _ _ _ ⟨σ,Gx.of1 (Go1.refl _ _),hw,Γ,rfl,ht⟩)
 | exit i=>intro Γ r σ a w Q h hw ht hQ; cases h; exact wp_exit (hQ _ _ _ ⟨σ,Gx.of1 (Go1.refl _ _),hw,Γ,List.mem_cons_self ..,ht⟩)
 | ret=>intro Γ r σ a w Q h hw ht hQ; cases h; exact wp_ret (hQ _ _ _ ⟨σ,Gx.of1 (Go1.refl _ _),hw,Γ,rfl,ht⟩)
 | region id ops draw =>
   intro Γ r σ a w Q h hw ht hQ
   cases draw with
   | true =>
     simp only [absK] at h
     split at h
     ·rename_i Γ' hd
      cases h
      have:=draw_ok hc (id:=id) (Q:=Q) hd hw ht (fun σ' a' w' g1 g2 g3=>hQ _ _ _ ⟨σ',g1,g2,Γ',rfl,g3⟩)
      simpa using this
     · cases h
   | false =>
     simp only [absK] at h
     split at h
     ·rename_i Γs hd
      cases h
      refine wp_region_list ?_
      have:=list_ok hc (Q:=Q) ops.toList ops.toList 0 [] Γ Γs σ a w hd hw ht (fun _ h=>nomatch h) (fun σ' a' w' g1 g2 g3=>by
       obtain ⟨Γ',hm,ht'⟩:=g3
       exact hQ _ _ _ ⟨σ',g1,g2,joinAll_ok hm ht'⟩)
      simpa using this
     · cases h
 | seq x y ihx ihy =>
   intro Γ r σ a w Q h hw ht hQ
   by_cases hreg : ∃ id ops,x = .region id ops false
   ·obtain ⟨id,ops,rfl⟩:=hreg
    simp only [absK] at h
    split at h
    · cases h
    ·rename_i Γs hd
     refine wp_seq (wp_region_list ?_)
     have:=list_ok hc (Q:=Exit.then (y.wp c.P Q) Q) ops.toList ops.toList 0 [] Γ Γs σ a w hd hw ht (fun _ h=>nomatch h) (fun σ' a' w' g1 g2 g3=>by
      obtain ⟨Γ',hm,ht'⟩:=g3
      obtain ⟨r1,k1,k2⟩:=seqAll_some h hm
      exact ihy Γ' r1 σ' a' w' Q k1 g2 ht' (fun e a2 w2 ho=>by
       obtain ⟨σ2,l1,l2,l3⟩:=ho
       exact hQ e a2 w2 ⟨σ2,g1.trans l1,l2,k2 _ _ _ l3⟩))
     simpa using this
   have h':(match absK c N x Γ with
    | none=>none
    | some r=>match r.nrm with
      | none=>some r
      | some Γ'=>match absK c N y Γ' with
        | none=>none
        | some r'=>some ⟨r'.nrm,jo r.ret r'.ret,je r.ext r'.ext⟩)=some r:=by
    rw [← h]
    cases x with
    | region id ops draw =>
      cases draw with
      | true=>rfl
      | false=>exact absurd ⟨id,ops,rfl⟩ hreg
    | _=>rfl
   clear h hreg
   have h:=h'
   clear h'
   split at h
   · cases h
   ·rename_i r1 h1
    refine wp_seq (ihx Γ r1 σ a w _ h1 hw ht (fun e a' w' ho => ?_))
    obtain ⟨σ',g1,g2,g3⟩:=ho
    split at h
    ·rename_i hn
     cases h
     cases e with
     | normal=>obtain ⟨Γ',h2,_⟩:=g3; rw [hn] at h2; cases h2
     | _=>exact hQ _ a' w' ⟨σ',g1,g2,g3⟩
    ·rename_i Γ' hn
     split at h
     · cases h
     ·rename_i r' h2
      cases h
      cases e with
      | normal =>
        obtain ⟨Γ1,h3,ht'⟩:=g3
        rw [hn] at h3
        cases h3
        refine ihy Γ' r' σ' a' w' Q h2 g2 ht' (fun e a2 w2 ho => ?_)
        obtain ⟨σ2,k1,k2,k3⟩:=ho
        refine hQ e a2 w2 ⟨σ2,g1.trans k1,k2,?_⟩
        cases e with
        | ret=>exact jo_r k3
        | exit i=>exact je_r k3
        | _=>exact k3
      | ret=>exact hQ _ a' w' ⟨σ',g1,g2,jo_l g3⟩
      | exit i=>exact hQ _ a' w' ⟨σ',g1,g2,je_l g3⟩
      | _=>exact g3.elim
 | cond x y z ihy ihz =>
   intro Γ r σ a w Q h hw ht hQ
   have hx:=ty_ok hw ht x
   simp only [absK] at h
   split at h
   · rename_i hb; rw [hb] at hx; exact wp_cond_true hx (ihy Γ r σ a w Q h hw ht hQ)
   · rename_i hb; rw [hb] at hx; exact wp_cond_false hx (ihz Γ r σ a w Q h hw ht hQ)
   ·rename_i hb
    rw [hb] at hx
    obtain ⟨b,hx⟩:=hx
    split at h
    ·rename_i r1 r2 h1 h2
     cases h
     refine wp_cond_split hx (fun _=>ihy Γ r1 σ a w Q h1 hw ht (fun e a' w' ho => ?_)) (fun _=>ihz Γ r2 σ a w Q h2 hw ht (fun e a' w' ho => ?_))
     · obtain ⟨σ',g1,g2,g3⟩:=ho; exact hQ _ _ _ ⟨σ',g1,g2,jr_l g3⟩
     · obtain ⟨σ',g1,g2,g3⟩:=ho; exact hQ _ _ _ ⟨σ',g1,g2,jr_r g3⟩
    · cases h
   · cases h
 | block i x ih =>
   intro Γ r σ a w Q h hw ht hQ
   simp only [absK] at h
   split at h
   · cases h
   ·rename_i r1 h1
    cases h
    refine wp_block (ih Γ r1 σ a w _ h1 hw ht (fun e a' w' ho => ?_))
    obtain ⟨σ',g1,g2,g3⟩:=ho
    cases e with
    | normal=>exact hQ _ _ _ ⟨σ',g1,g2,jo_l g3⟩
    | ret=>exact hQ _ _ _ ⟨σ',g1,g2,g3⟩
    | exit j =>
      show (if j=i then Q .normal a' w' else Q (.exit j) a' w')
      split
      · rename_i e; subst e; exact hQ _ _ _ ⟨σ',g1,g2,jo_r (outOf_ok g3)⟩
      ·rename_i hne
       obtain ⟨Λ,hm,hl⟩:=g3
       exact hQ _ _ _ ⟨σ',g1,g2,Λ,by rw [List.mem_filter]; exact ⟨hm,by simpa using hne⟩,hl⟩
    | _=>exact g3.elim
 | loop x ih =>
   intro Γ r σ a w Q h hw ht hQ
   simp only [absK] at h
   exact wp_loop_rounds N (loop_ok ih N Γ r σ a w Q h hw ht (fun e a' w' _ ho=>hQ e a' w' ho))
 | _=>intro Γ r σ a w Q h hw ht hQ; simp [absK] at h
noncomputable def resT (c:Ctx) (Γ:Env):ResultVar→Option T
 | .tmp t=>Γ.at t
 | .cell t y=>match Γ.at t,c.t y with
   | some (.ptr _ l off),some i=>aLoadP i l off
   | some (.own j off _),some i=>(rowOf Γ.rows j).bind fun l=>aLoadP i l off
   | _,_=>none
def resS (tmps:Array Value):ResultVar→Sem Value
 | .tmp t=>pure (tmps.getD t undef)
 | .cell u t=>do loadVar t (← asAddr (tmps.getD u undef))
theorem results_eq (fn:Func) (tmps:Array Value):results fn tmps=(do let vs ← fn.results.mapM (resS tmps); pure (if h:vs.size=1 then vs[0] else .tuple vs)):=rfl
theorem resT_ok {c:Ctx} (hc:c.Ok) {σ:S} {w:World} {a:Act} {Γ:Env} (hw:WT c.gt σ w) (ht:Typed σ a Γ) {x:ResultVar} {τ:T} (h:resT c Γ x=some τ) :
 ∃ v,(resS a.tmps x).run c.P w = .ok v w∧VT σ v τ:=by
 cases x with
 | tmp t=>exact ⟨_,rfl,ht.2.2.1 t τ h⟩
 | cell u t =>
   simp only [resT] at h
   have run : ∀ {b off:Nat} {v:Value},a.tmps.getD u undef = .pointer (some ⟨b,off,none⟩)→(Instr.loadAt t (.pointer (some ⟨b,off,none⟩))).run c.P w = .ok v w→(resS a.tmps (.cell u t)).run c.P w = .ok v w:=by
    intro b off v he hr
    unfold resS
    simp only [he,asAddr,Sem.run_bind,Sem.run_pure,Result.andThen_ok]
    simpa [Instr.loadAt,Instr.sureAddr] using hr
   split at h
   ·rename_i m l off i h1 h2
    obtain ⟨b,m',he,hb,hm⟩:=ht.2.2.1 u _ h1
    obtain ⟨C,t',f,hh,hf,hC⟩:=hw.blk b m' l hb
    obtain ⟨v,k1,k2⟩:=load_row hc h2 hh hC h
    exact ⟨v,run he k1,k2⟩
   ·rename_i j off m i h1 h2
    rw [Option.bind_eq_some_iff] at h
    obtain ⟨l,hl,h⟩:=h
    obtain ⟨he,_⟩:=ht.2.2.1 u _ h1
    obtain ⟨_,C,t',hh,hC⟩:=hw.pvt j l (ht.rw.row hl)
    obtain ⟨v,k1,k2⟩:=load_pre hc h2 hh hC h
    exact ⟨v,run he k1,k2⟩
   · cases h
noncomputable def resTs (c:Ctx) (Γ:Env):List ResultVar→Option T
 | []=>some .any
 | [x]=>resT c Γ x
 | [x,y]=>match resT c Γ x,resT c Γ y with
   | some a,some b=>some (.t2 a b)
   | _,_=>none
 | [x,y,z]=>match resT c Γ x,resT c Γ y,resT c Γ z with
   | some a,some b,some d=>some (.t3 a b d)
   | _,_,_=>none
 | _=>none
theorem resTs_ok {c:Ctx} (hc:c.Ok) {σ:S} {w:World} {a:Act} {Γ:Env} (hw:WT c.gt σ w) (ht:Typed σ a Γ) (fn:Func) {τ:T} (h:resTs c Γ fn.results.toList=some τ) :
 ∃ v,(results fn a.tmps).run c.P w = .ok v w∧VT σ v τ:=by
 obtain ⟨rs,hrs⟩ : ∃ rs,rs=fn.results.toList:=⟨_,rfl⟩
 have hre:fn.results=rs.toArray:=by rw [hrs]
 rw [← hrs] at h
 unfold resTs at h
 split at h
 ·cases h
  refine ⟨.tuple #[],?_,trivial⟩
  simp [results_eq,hre]
 ·rename_i x
  obtain ⟨v,h1,h2⟩:=resT_ok hc hw ht h
  refine ⟨v,?_,h2⟩
  simp only [results_eq,hre,List.mapM_toArray,List.mapM_cons,List.mapM_nil]
  simp [Sem.run_bind,h1]
 ·rename_i x y
  split at h
  ·rename_i τ1 τ2 e1 e2
   cases h
   obtain ⟨v,h1,h2⟩:=resT_ok hc hw ht e1
   obtain ⟨v',h1',h2'⟩:=resT_ok hc hw ht e2
   refine ⟨.tuple #[v,v'],?_,v,v',rfl,h2,h2'⟩
   simp only [results_eq,hre,List.mapM_toArray,List.mapM_cons,List.mapM_nil]
   simp [Sem.run_bind,h1,h1']
  · cases h
 ·rename_i x y z
  split at h
  ·rename_i τ1 τ2 τ3 e1 e2 e3
   cases h
   obtain ⟨v,h1,h2⟩:=resT_ok hc hw ht e1
   obtain ⟨v',h1',h2'⟩:=resT_ok hc hw ht e2
   obtain ⟨v'',h1'',h2''⟩:=resT_ok hc hw ht e3
   refine ⟨.tuple #[v,v',v''],?_,v,v',v'',rfl,h2,h2',h2''⟩
   simp only [results_eq,hre,List.mapM_toArray,List.mapM_cons,List.mapM_nil]
   simp [Sem.run_bind,h1,h1',h1'']
  · cases h
 · cases h
noncomputable def env0 (n:Nat):Nat→List T→Env
 | _,[]=>⟨n,.nil,[],0,[]⟩
 | k,τ::τs=>(env0 n (k+1) τs).set k τ
theorem env0_length (n:Nat) : ∀ (k:Nat) (τs:List T),(env0 n k τs).length=n
 | _,[]=>rfl
 | k,_::τs=>env0_length n (k+1) τs
theorem env0_pc (n:Nat) : ∀ (k:Nat) (τs:List T),(env0 n k τs).pc = []
 | _,[]=>rfl
 | k,_::τs=>env0_pc n (k+1) τs
theorem env0_rows (n:Nat) : ∀ (k:Nat) (τs:List T),(env0 n k τs).rows = []
 | _,[]=>rfl
 | k,_::τs=>env0_rows n (k+1) τs
theorem Go.shut {gt:Gt} {σ σ':S} {w w':World} (h:Go σ σ' w w') (hp : ∀ j,σ.pv j=none) (hw:WT gt σ' w') :
 Go1 σ ⟨σ'.f,σ'.rho,σ.ad,σ.pv⟩ w w'∧WT gt ⟨σ'.f,σ'.rho,σ.ad,σ.pv⟩ w' ∧ ∀ τ v,noOwn τ=true→VT σ' v τ→VT ⟨σ'.f,σ'.rho,σ.ad,σ.pv⟩ v τ:=by
 have hle:Le σ'.hide ⟨σ'.f,σ'.rho,σ.ad,σ.pv⟩:=⟨fun _ _ h=>h,fun _ _ _ h=>h,fun j l h=>by cases h⟩
 refine ⟨⟨h.same,h.os,h.tape,h.output,h.size,fun b hb hn=>h.kept b hb hn (fun j l hj=>by rw [hp] at hj; cases hj),h.rho,rfl,rfl⟩,⟨fun v e=>⟨(hw.old v e).1,(hw.old v e).2.1,fun j l hj => ?_⟩,hw.rho,hw.tab,hw.fx,fun b m l hb => ?_,fun j l hj => ?_,fun i j l l' hi => ?_,hw.pl⟩,fun τ v hn hv=>(hv.hide hn).mono hle⟩
 ·have hj:σ.pv j=some l:=hj
  rw [hp] at hj; cases hj
 ·obtain ⟨C,t,f,h1,h2,h3⟩:=hw.blk b m l hb
  exact ⟨C,t,f,h1,h2,(h3.hide (hw.pl b m l hb)).mono hle⟩
 ·have hj:σ.pv j=some l:=hj
  rw [hp] at hj; cases hj
 ·have hi:σ.pv i=some l:=hi
  rw [hp] at hi; cases hi
theorem env0_at (n:Nat) : ∀ (τs:List T) (k t:Nat) (τ:T),(env0 n k τs).at t=some τ→k≤t∧τs[t-k]? = some τ
 | [],k,t,τ,h=>by
   have hlt:=Env.lt h
   unfold env0 at h hlt
   rw [Env.at_ok hlt,Tr.get_nil] at h
   cases h
 | x::τs,k,t,τ,h=>by
   have hlt:=Env.lt h
   unfold env0 at h hlt
   by_cases e:k=t
   ·subst e
    rw [Env.set_self (by exact hlt)] at h
    cases h
    exact ⟨Nat.le_refl _,by simp⟩
   ·rw [Env.set_ne e] at h
    obtain ⟨h1,h2⟩:=env0_at n τs (k+1) t τ h
    refine ⟨by omega,?_⟩
    rw [show t-k=(t-(k+1))+1 by omega,List.getElem?_cons_succ]
    exact h2
noncomputable def absF (c:Ctx) (N:Nat) (fn:Func) (τs:List T):Option T :=
 match fn.body with
 | none=>none
 | some x=>match absK c N x (env0 fn.ntmps 0 τs) with
   | none=>none
   | some r=>if r.ext.isEmpty then (match jo r.nrm r.ret with | some Γ=>resTs c Γ fn.results.toList | none=>none) else none
noncomputable def chkF (c:Ctx) (N:Nat) (fn:Func) (τs:List T) (τ:T):Bool :=
 !(fn.name == "runtime.NumGoroutine") && (match absF c N fn τs with | some ρ=>(sub ρ τ && noOwn τ) && τs.all noOwn | none=>false)
theorem sig_bare {c:Ctx} (hc:c.Ok) {f:FuncId} {fn:Func} (N:Nat) (hf:c.P.funcs[f]? = some fn) {τs:List T} {τ:T} (h:chkF c N fn τs τ=true) {σ:S} {w:World} {vs:Array Value} (hp : ∀ j,σ.pv j=none) (hw:WT c.gt σ w) (hvs:VTs σ vs.toList τs) :
 (callFunc f vs).run c.P w = .ok (.enter f vs) w∧Calls c.P f vs w fun e w' => ∃ v,e = .returned v∧Ans c.gt σ w v w' τ:=by
 unfold chkF at h
 rw [Bool.and_eq_true,Bool.not_eq_true'] at h
 obtain ⟨hname,h⟩:=h
 cases hF:absF c N fn τs with
 | none=>simp [hF] at h
 | some ρ =>
   simp only [hF,Bool.and_eq_true] at h
   unfold absF at hF
   cases hb:fn.body with
   | none=>simp [hb] at hF
   | some x =>
     simp only [hb] at hF
     cases hK:absK c N x (env0 fn.ntmps 0 τs) with
     | none=>simp [hK] at hF
     | some r =>
       simp only [hK] at hF
       split at hF
       ·rename_i hext
        have h1:fn.name ≠ "runtime.NumGoroutine" := by simpa using hname
        refine ⟨by simp [callFunc,hf,h1,hb,mark],?_⟩
        have hlen:=hvs.1
        simp only [Array.length_toList] at hlen
        refine calls_of_wp hf hb ?_
        refine absK_ok hc N x _ r σ _ w _ hK hw ?_ (fun e a w' ho => ?_)
        ·refine ⟨by rw [env0_length]; simp; omega,⟨rfl,fun x hx=>by rw [env0_pc] at hx; cases hx⟩,fun t τ' ht => ?_,(fun x hx=>by rw [env0_rows] at hx; cases hx),fun j _=>hp j⟩
         ·obtain ⟨_,ht⟩:=env0_at _ _ _ _ _ ht
          rw [Nat.sub_zero] at ht
          obtain ⟨v,hv1,hv2⟩:=hvs.2 t τ' ht
          have hlt:t<vs.size:=by
           have:=(List.getElem?_eq_some_iff.1 ht).1
           omega
          have:(vs++Array.replicate (fn.ntmps-vs.size) undef).getD t undef=v:=by
           rw [Array.getD_eq_getD_getElem?,Array.getElem?_append_left hlt]
           have:vs[t]? = some v:=by simpa using hv1
           rw [this]
           rfl
          rw [this]
          exact hv2
        ·obtain ⟨σ',g1,g2,g3⟩:=ho
         have fin : ∀ (o:has σ' a (jo r.nrm r.ret)),a.defers = [] ∧ ∃ v,(results fn a.tmps).run c.P w' = .ok v w'∧(∃ v',Ending.returned v=Ending.returned v'∧Ans c.gt σ w v' w' τ):=by
          rintro ⟨Γ,hΓ,ht⟩
          rw [hΓ] at hF
          obtain ⟨v,hv1,hv2⟩:=resTs_ok hc g2 ht fn hF
          obtain ⟨k1,k2,k3⟩:=g1.go.shut hp g2
          exact ⟨ht.2.1.1,v,hv1,v,rfl,_,k1,k2,k3 _ _ h.1.2 (sub_ok _ _ hv2 h.1.1)⟩
         cases e with
         | normal=>exact fin (jo_l g3)
         | ret=>exact fin (jo_r g3)
         | exit i =>
           obtain ⟨Λ,hm,_⟩:=g3
           rw [List.isEmpty_iff.1 hext] at hm
           cases hm
         | _=>exact g3.elim
       · cases hF
theorem sig_calls {c:Ctx} (hc:c.Ok) {f:FuncId} {fn:Func} (N:Nat) (hf:c.P.funcs[f]? = some fn) {τs:List T} {τ:T} (h:chkF c N fn τs τ=true) {σ:S} {w:World} {vs:Array Value} (hw:WT c.gt σ w) (hvs:VTs σ vs.toList τs) :
 (callFunc f vs).run c.P w = .ok (.enter f vs) w∧Calls c.P f vs w fun e w' => ∃ v,e = .returned v∧Ans c.gt σ w v w' τ:=by
 have hn:τs.all noOwn=true:=by
  unfold chkF at h
  rw [Bool.and_eq_true] at h
  have h:=h.2
  split at h
  · rw [Bool.and_eq_true] at h; exact h.2
  · cases h
 obtain ⟨h1,h2⟩:=sig_bare hc N hf h (fun _=>rfl) hw.hide (hvs.hide hn)
 refine ⟨h1,h2.mono fun e w' hh => ?_⟩
 obtain ⟨v,e,k⟩:=hh
 exact ⟨v,e,k.bare hw⟩
end Ab
end Go.Proofs.YtfodadedkilgdaaGreatDoor
namespace Go.Proofs.YtfodadedkilgdaaGreatDoor
set_option linter.unusedVariables false
set_option linter.unusedSimpArgs false
open Go.RowKit
namespace Ab
inductive PX where
 | n
 | r
 | e (i:Nat)
def PX.m:PX→Exit→Prop
 | .n,x=>x = .normal
 | .r,x=>x = .ret
 | .e i,x=>x = .exit i
abbrev Ps:=List (PX×Env)
noncomputable def bindP (E:Env→Option Ps):Ps→Option Ps
 | []=>some []
 | (p,Γ)::r=>match p with
   | .n=>both (E Γ) (bindP E r)
   | p=>both (some [(p,Γ)]) (bindP E r)
def outP (i:Nat):PX×Env→PX×Env
 | (.e j,Γ)=>(match Nat.beq j i with | true => .n | false => .e j,Γ)
 | x=>x
noncomputable def loopP (E:Env→Option Ps):Nat→Env→Option Ps
 | 0,_=>none
 | n+1,Γ=>match E Γ with
   | none=>none
   | some L=>bindP (fun Γ'=>Γ'.forceK (loopP E n)) L
noncomputable def absP (c:Ctx) (N:Nat):Code→Env→Option Ps
 | .skip,Γ=>some [(.n,Γ)]
 | .label _,Γ=>some [(.n,Γ)]
 | .exit i,Γ=>some [(.e i,Γ)]
 | .ret,Γ=>some [(.r,Γ)]
 | .region _ ops draw,Γ=>match draw with
   | true=>(drawT c ops.toList Γ).map fun Γ' => [(.n,Γ')]
   | false=>(listT c ops.toList ops.toList 0 [] Γ).map fun Γs=>Γs.map fun Γ'=>(.n,Γ')
 | .seq x y,Γ=>match absP c N x Γ with
   | none=>none
   | some L=>bindP (absP c N y) L
 | .cond x y z,Γ=>match ty c.gt Γ x with
   | .cb true=>absP c N y Γ
   | .cb false=>absP c N z Γ
   | .bt t=>both (absP c N y (Γ.cond t true)) (absP c N z (Γ.cond t false))
   | _=>none
 | .block i x,Γ=>(absP c N x Γ).map fun L=>L.map (outP i)
 | .loop x,Γ=>loopP (absP c N x) N Γ
 | _,_=>none
def OutP (c:Ctx) (σ:S) (w:World) (L:Ps) (e:Exit) (a:Act) (w':World):Prop := ∃ p Γ σ',(p,Γ)∈L∧PX.m p e∧Gx c σ σ' w w'∧WT c.gt σ' w'∧Typed σ' a Γ
def SoundP (c:Ctx) (x:Code) (E:Env→Option Ps):Prop :=
 ∀ (Γ:Env) (L:Ps) (σ:S) (a:Act) (w:World) (Q:Exit→Act→World→Prop),E Γ=some L→WT c.gt σ w→Typed σ a Γ→(∀ e a' w',OutP c σ w L e a' w'→Q e a' w')→x.wp c.P Q a w
theorem bindP_n {E:Env→Option Ps} : ∀ {L R:Ps} {Γ:Env},bindP E L=some R→(.n,Γ)∈L → ∃ M,E Γ=some M ∧ ∀ x∈M,x∈R
 | (p,Δ)::r,R,Γ,h,hm=>by
   unfold bindP at h
   rcases List.mem_cons.1 hm with e | hm
   ·cases e
    obtain ⟨q1,q2,e1,e2,rfl⟩:=both_ok h
    exact ⟨q1,e1,fun x hx=>List.mem_append_left _ hx⟩
   ·split at h <;>
    ·obtain ⟨q1,q2,e1,e2,rfl⟩:=both_ok h
     obtain ⟨M,k1,k2⟩:=bindP_n e2 (by assumption)
     exact ⟨M,k1,fun x hx=>List.mem_append_right _ (k2 x hx)⟩
theorem bindP_x {E:Env→Option Ps} {p:PX} (hp:p ≠ .n) : ∀ {L R:Ps} {Γ:Env},bindP E L=some R→(p,Γ)∈L→(p,Γ)∈R
 | (q,Δ)::r,R,Γ,h,hm=>by
   unfold bindP at h
   rcases List.mem_cons.1 hm with e | hm
   ·cases e
    split at h
    · exact absurd rfl hp
    ·obtain ⟨q1,q2,e1,e2,rfl⟩:=both_ok h
     cases e1
     exact List.mem_append_left _ (by simp)
   ·split at h <;>
    ·obtain ⟨q1,q2,e1,e2,rfl⟩:=both_ok h
     exact List.mem_append_right _ (bindP_x hp e2 (by assumption))
theorem seqP {c:Ctx} {E:Env→Option Ps} {L R:Ps} (hb:bindP E L=some R) {σ:S} {w:World} {Q:Exit→Act→World→Prop} (hQ : ∀ e a' w',OutP c σ w R e a' w'→Q e a' w')
 {k:Act→World→Prop} (hk : ∀ (Γ:Env) (M:Ps) (σ':S) (a:Act) (w':World),E Γ=some M→WT c.gt σ' w'→Typed σ' a Γ→(∀ e a2 w2,OutP c σ' w' M e a2 w2→Q e a2 w2)→k a w') :
 ∀ e a w',OutP c σ w L e a w'→(match e with | .normal=>k a w' | e=>Q e a w'):=by
 intro e a w' ⟨p,Γ,σ',hm,hpe,g1,g2,g3⟩
 cases p with
 | n =>
   obtain rfl:e = .normal:=hpe
   obtain ⟨M,k1,k2⟩:=bindP_n hb hm
   exact hk Γ M σ' a w' k1 g2 g3 (fun e a2 w2 ⟨p,Δ,σ2,h1,h2,h3,h4,h5⟩=>hQ e a2 w2 ⟨p,Δ,σ2,k2 _ h1,h2,g1.trans h3,h4,h5⟩)
 | r =>
   obtain rfl:e = .ret:=hpe
   exact hQ _ _ _ ⟨.r,Γ,σ',bindP_x (by simp) hb hm,rfl,g1,g2,g3⟩
 | e i =>
   obtain rfl:e = .exit i:=hpe
   exact hQ _ _ _ ⟨.e i,Γ,σ',bindP_x (by simp) hb hm,rfl,g1,g2,g3⟩
theorem loopP_ok {c:Ctx} {x:Code} {E:Env→Option Ps} (hx:SoundP c x E) : ∀ (n:Nat) (Γ:Env) (L:Ps) (σ:S) (a:Act) (w:World) (Q:Exit→Act→World→Prop),loopP E n Γ=some L→WT c.gt σ w→Typed σ a Γ →
 (∀ e a' w',OutP c σ w L e a' w'→Q e a' w')→Code.rounds c.P x Q n a w
 | 0,Γ,L,σ,a,w,Q,h,_,_,_=>by simp [loopP] at h
 | n+1,Γ,L,σ,a,w,Q,h,hw,ht,hQ=>by
   unfold loopP at h
   rw [rounds_succ]
   cases hE:E Γ with
   | none=>simp [hE] at h
   | some M =>
     simp only [hE,Env.forceK_eq] at h
     refine hx Γ M σ a w _ hE hw ht (fun e a' w' ho => ?_)
     have:=seqP h hQ (k:=fun a w=>Code.rounds c.P x Q n a w) (fun Γ M σ' a w' h1 h2 h3 h4=>loopP_ok hx n Γ M σ' a w' Q h1 h2 h3 h4) e a' w' ho
     cases e <;> exact this
theorem absP_ok {c:Ctx} (hc:c.Ok) (N:Nat) : ∀ x:Code,SoundP c x (absP c N x):=by
 intro x
 have here : ∀ {Γ:Env} {σ:S} {a:Act} {w:World} {p:PX} {e:Exit},WT c.gt σ w→Typed σ a Γ→PX.m p e→OutP c σ w [(p,Γ)] e a w:=fun hw ht hp=>⟨_,_,_,by simp,hp,Gx.of1 (Go1.refl _ _),hw,ht⟩
 induction x with
 | skip=>intro Γ L σ a w Q h hw ht hQ; cases h; exact wp_skip (hQ _ _ _ (here hw ht rfl))
 | label l=>intro Γ L σ a w Q h hw ht hQ; cases h; exact wp_label (hQ _ _ _ (here hw ht rfl))
 | exit i=>intro Γ L σ a w Q h hw ht hQ; cases h; exact wp_exit (hQ _ _ _ (here hw ht rfl))
 | ret=>intro Γ L σ a w Q h hw ht hQ; cases h; exact wp_ret (hQ _ _ _ (here hw ht rfl))
 | region id ops draw =>
   intro Γ L σ a w Q h hw ht hQ
   cases draw with
   | true =>
     simp only [absP,Option.map_eq_some_iff] at h
     obtain ⟨Γ',hd,rfl⟩:=h
     have:=draw_ok hc (id:=id) (Q:=Q) hd hw ht (fun σ' a' w' g1 g2 g3=>hQ _ _ _ ⟨.n,Γ',σ',by simp,rfl,g1,g2,g3⟩)
     simpa using this
   | false =>
     simp only [absP,Option.map_eq_some_iff] at h
     obtain ⟨Γs,hd,rfl⟩:=h
     refine wp_region_list ?_
     have:=list_ok hc (Q:=Q) ops.toList ops.toList 0 [] Γ Γs σ a w hd hw ht (fun _ h=>nomatch h) (fun σ' a' w' g1 g2 g3=>by
      obtain ⟨Γ',hm,ht'⟩:=g3
      exact hQ _ _ _ ⟨.n,Γ',σ',List.mem_map.2 ⟨Γ',hm,rfl⟩,rfl,g1,g2,ht'⟩)
     simpa using this
 | seq x y ihx ihy =>
   intro Γ L σ a w Q h hw ht hQ
   simp only [absP] at h
   split at h
   · cases h
   ·rename_i M hM
    refine wp_seq (ihx Γ M σ a w _ hM hw ht (fun e a' w' ho => ?_))
    have:=seqP h hQ (k:=fun a w=>y.wp c.P Q a w) (fun Γ M σ' a w' h1 h2 h3 h4=>ihy Γ M σ' a w' Q h1 h2 h3 h4) e a' w' ho
    cases e <;> exact this
 | cond x y z ihy ihz =>
   intro Γ L σ a w Q h hw ht hQ
   have hx:=ty_ok hw ht x
   simp only [absP] at h
   split at h
   · rename_i hb; rw [hb] at hx; exact wp_cond_true hx (ihy Γ L σ a w Q h hw ht hQ)
   · rename_i hb; rw [hb] at hx; exact wp_cond_false hx (ihz Γ L σ a w Q h hw ht hQ)
   ·rename_i t hb
    rw [hb] at hx
    obtain ⟨p,q,e1,e2,rfl⟩:=both_ok h
    obtain ⟨hrho,b,hbv⟩:=hx
    rw [hbv] at hrho
    have hbv:a.eval x = .bool b:=hbv
    cases b with
    | true=>exact wp_cond_true hbv (ihy _ p σ a w Q e1 hw (ht.cond hrho) (fun e a' w' ⟨p',Γ',σ',h1,h2⟩=>hQ e a' w' ⟨p',Γ',σ',List.mem_append_left _ h1,h2⟩))
    | false=>exact wp_cond_false hbv (ihz _ q σ a w Q e2 hw (ht.cond hrho) (fun e a' w' ⟨p',Γ',σ',h1,h2⟩=>hQ e a' w' ⟨p',Γ',σ',List.mem_append_right _ h1,h2⟩))
   · cases h
 | block i x ih =>
   intro Γ L σ a w Q h hw ht hQ
   simp only [absP,Option.map_eq_some_iff] at h
   obtain ⟨M,hM,rfl⟩:=h
   refine wp_block (ih Γ M σ a w _ hM hw ht (fun e a' w' ho => ?_))
   obtain ⟨p,Γ',σ',h1,h2,h3⟩:=ho
   have hm:outP i (p,Γ')∈M.map (outP i):=List.mem_map.2 ⟨_,h1,rfl⟩
   cases p with
   | n=>obtain rfl:e = .normal:=h2; exact hQ _ _ _ ⟨.n,Γ',σ',hm,rfl,h3⟩
   | r=>obtain rfl:e = .ret:=h2; exact hQ _ _ _ ⟨.r,Γ',σ',hm,rfl,h3⟩
   | e j =>
     obtain rfl:e = .exit j:=h2
     show (if j=i then Q .normal a' w' else Q (.exit j) a' w')
     have ho:outP i (.e j,Γ')=(match Nat.beq j i with | true=>PX.n | false=>PX.e j,Γ'):=rfl
     rw [ho] at hm
     split
     ·rename_i e
      subst e
      have:Nat.beq j j=true:=by simp
      rw [this] at hm
      exact hQ _ _ _ ⟨.n,Γ',σ',hm,rfl,h3⟩
     ·rename_i hne
      have:Nat.beq j i=false:=by
       cases hh:Nat.beq j i with
       | true=>exact absurd (Nat.eq_of_beq_eq_true hh) hne
       | false=>rfl
      rw [this] at hm
      exact hQ _ _ _ ⟨.e j,Γ',σ',hm,rfl,h3⟩
 | loop x ih =>
   intro Γ L σ a w Q h hw ht hQ
   simp only [absP] at h
   exact wp_loop_rounds N (loopP_ok ih N Γ L σ a w Q h hw ht hQ)
 | _=>intro Γ L σ a w Q h hw ht hQ; simp [absP] at h
structure Fin where
 pc:List (Tm×Bool)
 τ:T
 rows:List (Nat×List K)
noncomputable def finP (c:Ctx) (fn:Func):Ps→Option (List Fin)
 | []=>some []
 | (p,Γ)::r=>match p with
   | .e _=>none
   | _=>match resTs c Γ fn.results.toList,finP c fn r with
     | some τ,some l=>some (⟨Γ.pc,τ,Γ.rows⟩::l)
     | _,_=>none
noncomputable def fnP (c:Ctx) (N:Nat) (fn:Func) (τs:List T):Option (List Fin):=match fn.body with
 | none=>none
 | some x=>match fn.name == "runtime.NumGoroutine" with
   | true=>none
   | false=>match absP c N x (env0 fn.ntmps 0 τs) with
     | none=>none
     | some L=>finP c fn L
theorem finP_ok {c:Ctx} {fn:Func} {p:PX} {Γ:Env} : ∀ {L:Ps} {l:List Fin},finP c fn L=some l→(p,Γ)∈L→(∀ i,p ≠ .e i) ∧ ∃ τ,resTs c Γ fn.results.toList=some τ∧⟨Γ.pc,τ,Γ.rows⟩∈l
 | (q,Δ)::r,l,h,hm=>by
   unfold finP at h
   split at h
   · cases h
   ·rename_i hq
    split at h
    ·rename_i τ l' h1 h2
     cases h
     rcases List.mem_cons.1 hm with e | hm
     · cases e; exact ⟨hq,τ,h1,by simp⟩
     ·obtain ⟨k1,τ',k2,k3⟩:=finP_ok h2 hm
      exact ⟨k1,τ',k2,List.mem_cons_of_mem _ k3⟩
    · cases h
theorem fnP_ok {c:Ctx} (hc:c.Ok) {f:FuncId} {fn:Func} (N:Nat) (hf:c.P.funcs[f]? = some fn) {τs:List T} {l:List Fin} (h:fnP c N fn τs=some l) {σ:S} {w:World} {vs:Array Value} (hp : ∀ j,σ.pv j=none) (hw:WT c.gt σ w) (hvs:VTs σ vs.toList τs) :
 Calls c.P f vs w fun e w' => ∃ x v σ',x∈l∧e = .returned v∧Go σ σ' w w'∧WT c.gt σ' w'∧VT σ' v x.τ∧(∀ y∈x.pc,(σ'.rho y.1)[0]? = some (.bool y.2)) ∧ ∀ y∈x.rows,σ'.pv y.1=some y.2:=by
 unfold fnP at h
 split at h
 · cases h
 rename_i x hb
 split at h
 · cases h
 rename_i hname
 split at h
 · cases h
 rename_i L hL
 have hlen:=hvs.1
 simp only [Array.length_toList] at hlen
 refine calls_of_wp hf hb ?_
 refine absP_ok hc N x _ L σ _ w _ hL hw ?_ (fun e a w' ho => ?_)
 ·refine ⟨by rw [env0_length]; simp; omega,⟨rfl,fun x hx=>by rw [env0_pc] at hx; cases hx⟩,fun t τ' ht => ?_,(fun x hx=>by rw [env0_rows] at hx; cases hx),fun j _=>hp j⟩
  obtain ⟨_,ht⟩:=env0_at _ _ _ _ _ ht
  rw [Nat.sub_zero] at ht
  obtain ⟨v,hv1,hv2⟩:=hvs.2 t τ' ht
  have hlt:t<vs.size:=by
   have:=(List.getElem?_eq_some_iff.1 ht).1
   omega
  have:(vs++Array.replicate (fn.ntmps-vs.size) undef).getD t undef=v:=by
   rw [Array.getD_eq_getD_getElem?,Array.getElem?_append_left hlt]
   have:vs[t]? = some v:=by simpa using hv1
   rw [this]
   rfl
  rw [this]
  exact hv2
 ·obtain ⟨p,Γ,σ',h1,h2,g1,g2,g3⟩:=ho
  obtain ⟨k1,τ,k2,k3⟩:=finP_ok h h1
  obtain ⟨v,hv1,hv2⟩:=resTs_ok hc g2 g3 fn k2
  have fin:a.defers = [] ∧ ∃ v,(results fn a.tmps).run c.P w' = .ok v w' ∧ ∃ x v' σ',x∈l∧Ending.returned v = .returned v'∧Go σ σ' w w'∧WT c.gt σ' w'∧VT σ' v' x.τ∧(∀ y∈x.pc,(σ'.rho y.1)[0]? = some (.bool y.2)) ∧ ∀ y∈x.rows,σ'.pv y.1=some y.2 :=
   ⟨g3.2.1.1,v,hv1,_,v,σ',k3,rfl,g1.go,g2,hv2,g3.2.1.2,g3.2.2.2.1⟩
  cases p with
  | n=>obtain rfl:e = .normal:=h2; exact fin
  | r=>obtain rfl:e = .ret:=h2; exact fin
  | e i=>exact absurd rfl (k1 i)
end Ab
end Go.Proofs.YtfodadedkilgdaaGreatDoor

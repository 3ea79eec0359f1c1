/- A part of the proof. Plain; no condition. -/
import Derived.Test.YtfodadedkilgdaaGreatDoorP18
namespace Go.Proofs.YtfodadedkilgdaaGreatDoor
set_option linter.unusedVariables false
set_option linter.unusedSimpArgs false
open Go.RowKit
namespace Ab
set_option warn.classDefReducibility false
attribute [local instance 100000] decEqI decLeI decLtI
def tmB:T→Option Tm
 | .bt t=>some t
 | .cb b=>some (.bl b)
 | _=>none
theorem tmB_ok {c:Ctx} (hp:PickOk c.gt.rho) {σ:S} (hr:σ.rho=c.gt.rho) {v:Value} {τ:T} {t:Tm} (h:tmB τ=some t) (hv:VT σ v τ):VT σ v (.bt t):=by
 cases τ <;> simp [tmB] at h
 · subst h; rename_i b; obtain rfl:v = .bool b:=hv; exact ⟨by rw [hr]; exact hp.1 b,b,rfl⟩
 · subst h; exact hv
def Env.cond (Γ:Env) (t:Tm) (b:Bool):Env:=⟨Γ.length,Γ.tr,Γ.rows,Γ.next,(t,b)::Γ.pc⟩
theorem Typed.cond {σ:S} {a:Act} {Γ:Env} (h:Typed σ a Γ) {t:Tm} {b:Bool} (hb:(σ.rho t)[0]? = some (.bool b)):Typed σ a (Γ.cond t b) :=
 ⟨h.1,⟨h.2.1.1,fun x hx=>by rcases List.mem_cons.1 hx with rfl | hx; exact hb; exact h.2.1.2 x hx⟩,h.2.2.1,h.2.2.2⟩
noncomputable def absG (c:Ctx) (Γ:Env) (o:Op):Option T :=
 match o with
 | .pick x y z=>match ty c.gt Γ x with
   | .cb true=>some (ty c.gt Γ y)
   | .cb false=>some (ty c.gt Γ z)
   | .bool=>some (join (ty c.gt Γ y) (ty c.gt Γ z))
   | .bt t=>match tmB (ty c.gt Γ y),tmB (ty c.gt Γ z) with
     | some u,some v=>match c.own with | some _=>some (.bt (.pick t u v)) | none=>none
     | _,_=>none
   | _=>none
 | o=>absC c Γ o
abbrev Ef:=List Nat×Option (Nat×List K)
noncomputable def absX (c:Ctx) (n:Nat) (Γ:Env) (o:Oper):Option (T×Ef):=match absO c n Γ o with
 | some x=>if o.guard.isNone || x.2.2.isNone then some x else none
 | none=>(absG c Γ o.op).map fun τ=>(τ,[],none)
noncomputable def seqT (c:Ctx) (n:Nat):List Oper→Nat→Env→Option (List T×List Ef×Env)
 | [],_,Γ=>some ([],[],Γ)
 | o::r,i,Γ=>match absX c (n+i) Γ o with
   | none=>none
   | some (τ,x)=>effK Γ x.2 fun Γ=>putK Γ o.dst τ fun Γ'=>match seqT c n r (i+1) Γ' with
     | none=>none
     | some (τs,es,Γ')=>some (τ::τs,x::es,Γ')
def guarded (ops:List Oper) (j:Nat):Bool:=ops.any fun o=>match o.guard with | some (g,_)=>g==j | none=>false
noncomputable def wantT (ops:List Oper) (Γ:Env) (o:Oper):Option Bool :=
 match o.guard with
 | none=>some true
 | some (g,b)=>match (ops[g]?).bind (·.dst) with
   | some d=>match Γ.at d with
     | some (.cb x)=>some (x==b)
     | some .und=>some false
     | _=>none
   | none=>none
def flipB:BinOp→BinOp
 | .lss => .gtr
 | .gtr => .lss
 | .leq => .geq
 | .geq => .leq
 | op=>op
def isCmp:BinOp→Bool
 | .lss | .gtr | .leq | .geq=>true
 | _=>false
noncomputable def cmpS (c:Ctx) (Γ:Env) (o:Oper):Option (Tmp×IntKind×Int×Int×BinOp×Int) :=
 match o.op with
 | .binOp op _ x y _=>if isCmp op then
    match x,y,ty c.gt Γ x,ty c.gt Γ y with
    | .tmp t,_,.int k lo hi,.int k' a b=>if k=k'∧a=b then some (t,k,lo,hi,op,a) else
     match y with
     | .tmp t'=>if k=k'∧lo=hi then some (t',k,a,b,flipB op,lo) else none
     | _=>none
    | _,.tmp t',.int k lo hi,.int k' a b=>if k=k'∧lo=hi then some (t',k,a,b,flipB op,lo) else none
    | _,_,_,_=>none
   else none
 | _=>none
def rng (op:BinOp) (b:Bool) (lo hi n:Int):Int×Int :=
 match op,b with
 | .lss,true=>(lo,min hi (n-1))
 | .lss,false=>(max lo n,hi)
 | .leq,true=>(lo,min hi n)
 | .leq,false=>(max lo (n+1),hi)
 | .gtr,true=>(max lo (n+1),hi)
 | .gtr,false=>(lo,min hi n)
 | .geq,true=>(max lo n,hi)
 | .geq,false=>(lo,min hi (n-1))
 | _,_=>(lo,hi)
noncomputable def refine1 (k:IntKind) (r:Int×Int) (Γ:Env) (t:Tmp):Env:=Γ.set t (.int k r.1 r.2)
noncomputable def refineA (k:IntKind) (r:Int×Int) (al:List (Tmp×Tmp)) (Γ:Env) (t:Tmp):Env :=
 (al.filter fun x=>x.1==t).foldl (fun Γ x=>refine1 k r Γ x.2) (refine1 k r Γ t)
def dropA (al:List (Tmp×Tmp)):Option Tmp→List (Tmp×Tmp)
 | none=>al
 | some d=>al.filter fun x=>x.1 != d && x.2 != d
def nextA (al:List (Tmp×Tmp)) (o:Oper) (n:Nat):List (Tmp×Tmp) :=
 match o.op,o.dst with
 | .move (.tmp s),some d=>if s≠d∧d<n then (d,s)::dropA al o.dst else dropA al o.dst
 | _,_=>dropA al o.dst
def both {α:Type}:Option (List α)→Option (List α)→Option (List α)
 | some x,some y=>some (x++y)
 | _,_=>none
noncomputable def listT (c:Ctx) (ops:List Oper):List Oper→Nat→List (Tmp×Tmp)→Env→Option (List Env)
 | [],_,_,Γ=>some [Γ]
 | o::r,j,al,Γ=>match wantT ops Γ o with
   | none=>none
   | some false=>putK Γ o.dst .und (listT c ops r (j+1) (dropA al o.dst))
   | some true=>match absO c Γ.next Γ o with
    | some (τ,_,e)=>effK Γ e fun Γ=>match τ with
      | .bt t=>if guarded ops j then both (putK (Γ.cond t true) o.dst (.cb true) (listT c ops r (j+1) (dropA al o.dst))) (putK (Γ.cond t false) o.dst (.cb false) (listT c ops r (j+1) (dropA al o.dst)))
        else putK Γ o.dst (.bt t) (listT c ops r (j+1) (dropA al o.dst))
      | τ=>putK Γ o.dst τ (listT c ops r (j+1) (dropA al o.dst))
    | none=>match absC c Γ o.op with
     | none=>none
     | some (.or a b)=>both (putK Γ o.dst a (listT c ops r (j+1) (dropA al o.dst))) (putK Γ o.dst b (listT c ops r (j+1) (dropA al o.dst)))
     | some (.bt t)=>if guarded ops j then both (putK (Γ.cond t true) o.dst (.cb true) (listT c ops r (j+1) (dropA al o.dst))) (putK (Γ.cond t false) o.dst (.cb false) (listT c ops r (j+1) (dropA al o.dst)))
      else putK Γ o.dst (.bt t) (listT c ops r (j+1) (nextA al o Γ.length))
     | some .bool=>match cmpS c Γ o with
       | some (t,k,lo,hi,op,n) =>
         both ((refineA k (rng op true lo hi n) al Γ t).forceK fun Γ=>putK Γ o.dst (.cb true) (listT c ops r (j+1) (dropA al o.dst)))
          ((refineA k (rng op false lo hi n) al Γ t).forceK fun Γ=>putK Γ o.dst (.cb false) (listT c ops r (j+1) (dropA al o.dst)))
       | none=>if guarded ops j then both (putK Γ o.dst (.cb true) (listT c ops r (j+1) (dropA al o.dst))) (putK Γ o.dst (.cb false) (listT c ops r (j+1) (dropA al o.dst)))
         else putK Γ o.dst .bool (listT c ops r (j+1) (nextA al o Γ.length))
     | some τ=>putK Γ o.dst τ (listT c ops r (j+1) (nextA al o Γ.length))
section
variable {c:Ctx} {Q:Exit→Act→World→Prop}
theorem want_ok {ops:List Oper} {σ:S} {a:Act} {Γ:Env} (ht:Typed σ a Γ) {o:Oper} {b:Bool} (h:wantT ops Γ o=some b):Region.wanted o (yielded ops.toArray a.tmps)=b:=by
 unfold wantT at h
 unfold Region.wanted
 cases hg:o.guard with
 | none=>simp only [hg] at h ⊢; cases h; rfl
 | some gb =>
   obtain ⟨g,b'⟩:=gb
   simp only [hg] at h ⊢
   cases hd:(ops[g]?).bind (·.dst) with
   | none=>simp [hd] at h
   | some d =>
     simp only [hd] at h
     cases hΓ:Γ.at d with
     | none=>simp [hΓ] at h
     | some τ =>
       simp only [hΓ] at h
       have hlt:d<a.tmps.size:=Nat.lt_of_lt_of_le (Env.lt hΓ) ht.1
       have hd':(ops.toArray[g]?).bind (·.dst)=some d:=by simpa using hd
       have hv:=ht.2.2.1 d _ hΓ
       have key : ∀ u,a.tmps.getD d undef=u→a.tmps[d]? = some u:=fun u hu=>by
        rw [Array.getD_eq_getD_getElem?,Array.getElem?_eq_getElem hlt] at hu
        rw [Array.getElem?_eq_getElem hlt]
        exact congrArg some hu
       cases τ <;> simp at h
       ·rename_i x
        have he:=key (.bool x) hv
        unfold yielded
        rw [hd']
        simp only [Option.bind_some,he]
        subst h
        cases x <;> cases b' <;> rfl
       ·have he:=key undef hv
        unfold yielded
        rw [hd']
        simp only [Option.bind_some,he]
        subst h
        rfl
def Same (a:Act) (al:List (Tmp×Tmp)):Prop := ∀ x∈al,a.tmps.getD x.1 undef=a.tmps.getD x.2 undef
theorem getD_put {a:Act} {d t:Nat} {v:Value} (h:d≠t):(a.put (some d) v).tmps.getD t undef=a.tmps.getD t undef:=by
 show (a.tmps.setIfInBounds d v).getD t undef=_
 rw [Array.getD_eq_getD_getElem?,Array.getD_eq_getD_getElem?,Array.getElem?_setIfInBounds_ne h]
theorem Same.drop {a:Act} {al:List (Tmp×Tmp)} (h:Same a al) (d:Option Tmp) (v:Value):Same (a.put d v) (dropA al d):=by
 cases d with
 | none=>exact h
 | some d =>
   intro x hx
   unfold dropA at hx
   rw [List.mem_filter] at hx
   obtain ⟨hm,hb⟩:=hx
   simp only [Bool.and_eq_true,bne_iff_ne] at hb
   rw [getD_put (Ne.symm hb.1),getD_put (Ne.symm hb.2)]
   exact h x hm
theorem Same.next {a:Act} {al:List (Tmp×Tmp)} (h:Same a al) (o:Oper) (v:Value) {n:Nat} (hn:n≤a.tmps.size) (hv : ∀ s,o.op = .move (.tmp s)→v=a.tmps.getD s undef):Same (a.put o.dst v) (nextA al o n):=by
 unfold nextA
 split
 ·rename_i s d hop hd
  split
  ·rename_i hh
   intro x hx
   rcases List.mem_cons.1 hx with rfl | hx
   ·rw [hd]
    dsimp only
    have hv':=hv s hop
    rw [getD_put (Ne.symm hh.1)]
    have hdl:d<a.tmps.size:=Nat.lt_of_lt_of_le hh.2 hn
    show (a.tmps.setIfInBounds d v).getD d undef=_
    rw [Array.getD_eq_getD_getElem?,Array.getElem?_setIfInBounds_self_of_lt hdl]
    exact hv'
   · exact h.drop o.dst v x hx
  · exact h.drop o.dst v
 · exact h.drop o.dst v
theorem Typed.set {σ:S} {a:Act} {Γ:Env} (ht:Typed σ a Γ) {t:Nat} {τ:T} (hv:VT σ (a.tmps.getD t undef) τ):Typed σ a (Γ.set t τ):=by
 refine ⟨ht.1,ht.2.1,fun t' τ' h => ?_,ht.2.2.2⟩
 by_cases e:t=t'
 ·subst e
  have hlt:t<Γ.length:=Env.lt (Γ:=Γ.set t τ) h
  rw [Env.set_self hlt] at h
  cases h
  exact hv
 ·rw [Env.set_ne e] at h
  exact ht.2.2.1 t' τ' h
theorem refineA_ok {σ:S} {a:Act} {Γ:Env} {al:List (Tmp×Tmp)} (ht:Typed σ a Γ) (hs:Same a al) {t:Tmp} {k:IntKind} {r:Int×Int} {m:Int} (hv:a.tmps.getD t undef = .int k m) (h1:r.1≤m) (h2:m≤r.2):Typed σ a (refineA k r al Γ t):=by
 unfold refineA
 have base:Typed σ a (refine1 k r Γ t):=ht.set ⟨m,hv,h1,h2⟩
 have key : ∀ (l:List (Tmp×Tmp)) (Γ:Env),(∀ x∈l,a.tmps.getD x.2 undef = .int k m)→Typed σ a Γ→Typed σ a (l.foldl (fun Γ x=>refine1 k r Γ x.2) Γ):=by
  intro l
  induction l with
  | nil=>intro Γ _ h; exact h
  | cons x l ih=>intro Γ hx h; exact ih _ (fun y hy=>hx y (List.mem_cons_of_mem _ hy)) (h.set ⟨m,hx x (List.mem_cons_self ..),h1,h2⟩)
 refine key _ _ (fun x hx => ?_) base
 rw [List.mem_filter] at hx
 have he:x.1=t:=by simpa using hx.2
 rw [← hs x hx.1,he,hv]
def cmpV:BinOp→Int→Int→Bool
 | .lss,x,y=>decide (x<y)
 | .leq,x,y=>decide (x≤y)
 | .gtr,x,y=>decide (x>y)
 | .geq,x,y=>decide (x≥y)
 | _,_,_=>false
theorem cmp_run {P:Program} {w:World} {op:BinOp} (h:isCmp op=true) (t:TypeId) (ox oy:Operand) (k:IntKind) (x y:Int):((do eqGuard op t ox oy (.int k x) (.int k y); binOp op t (.int k x) (.int k y):Sem Value)).run P w = .ok (.bool (cmpV op x y)) w:=by
 cases op <;> simp [isCmp] at h <;> simp [eqGuard,binOp,Op.intCmp,cmpV]
theorem flip_v {op:BinOp} (h:isCmp op=true) (x y:Int):cmpV op x y=cmpV (flipB op) y x∧isCmp (flipB op)=true:=by
 cases op <;> simp [isCmp] at h <;> simp [cmpV,flipB,isCmp]
theorem rng_ok {op:BinOp} (hop:isCmp op=true) {lo hi m n:Int} (h1:lo≤m) (h2:m≤hi) {b:Bool} (hb:cmpV op m n=b):(rng op b lo hi n).1≤m∧m≤(rng op b lo hi n).2:=by
 cases op <;> simp [isCmp] at hop <;> cases b <;> simp [cmpV] at hb <;> simp only [rng] <;> omega
theorem cmpS_ok (hc:c.Ok) {σ:S} {a:Act} {w:World} {Γ:Env} (hw:WT c.gt σ w) (ht:Typed σ a Γ) {o:Oper} {t:Tmp} {k:IntKind} {lo hi n:Int} {op:BinOp} (h:cmpS c Γ o=some (t,k,lo,hi,op,n)) :
 ∃ m,a.tmps.getD t undef = .int k m∧lo≤m∧m≤hi∧isCmp op=true∧(execOp a.eval o).run c.P w = .ok (.value (.bool (cmpV op m n))) w:=by
 obtain ⟨dst,oo,type,pos,after,guard⟩:=o
 cases oo <;> simp only [cmpS] at h
 case binOp op' ty' x y ty2 =>
  split at h
  ·rename_i hcmp
   have hrun : ∀ k x' y',a.eval x = .int k x'→a.eval y = .int k y'→(execOp a.eval {dst:=dst,op := .binOp op' ty' x y ty2,type:=type,pos:=pos,after:=after,guard:=guard}).run c.P w = .ok (.value (.bool (cmpV op' x' y'))) w:=by
    intro k x' y' hx hy
    refine run_v (s:=(do eqGuard op' ty' x y (a.eval x) (a.eval y); binOp op' ty' (a.eval x) (a.eval y))) ?_
    rw [hx,hy]
    exact cmp_run hcmp ty' x y k x' y'
   have hx:=ty_ok hw ht x
   have hy:=ty_ok hw ht y
   split at h
   ·rename_i t0 k0 lo0 hi0 k1 a1 b1 e1 e2
    rw [e1] at hx
    rw [e2] at hy
    obtain ⟨p,hp,p1,p2⟩:=hx
    obtain ⟨q,hq,q1,q2⟩:=hy
    split at h
    ·rename_i hh
     obtain ⟨rfl,rfl⟩:=hh
     cases h
     obtain rfl:q=n:=by omega
     exact ⟨p,hp,p1,p2,hcmp,hrun _ _ _ hp hq⟩
    ·split at h
     ·rename_i t1
      split at h
      ·rename_i hh
       obtain ⟨rfl,rfl⟩:=hh
       cases h
       obtain rfl:p=n:=by omega
       have:=flip_v hcmp p q
       exact ⟨q,hq,q1,q2,this.2,by rw [← this.1]; exact hrun _ _ _ hp hq⟩
      · cases h
     · cases h
   ·rename_i t1 k0 lo0 hi0 k1 a1 b1 _ e1 e2
    rw [e1] at hx
    rw [e2] at hy
    obtain ⟨p,hp,p1,p2⟩:=hx
    obtain ⟨q,hq,q1,q2⟩:=hy
    split at h
    ·rename_i hh
     obtain ⟨rfl,rfl⟩:=hh
     cases h
     obtain rfl:p=n:=by omega
     have:=flip_v hcmp p q
     exact ⟨q,hq,q1,q2,this.2,by rw [← this.1]; exact hrun _ _ _ hp hq⟩
    · cases h
   · cases h
  · cases h
 all_goals cases h
theorem both_ok {α:Type} {x y:Option (List α)} {l:List α} (h:both x y=some l) : ∃ p q,x=some p∧y=some q∧l=p++q:=by
 cases x with
 | none=>simp [both] at h
 | some p=>cases y with
   | none=>simp [both] at h
   | some q=>simp [both] at h; exact ⟨p,q,rfl,rfl,h.symm⟩
theorem list_ok (hc:c.Ok) (ops:List Oper) : ∀ (l:List Oper) (j:Nat) (al:List (Tmp×Tmp)) (Γ:Env) (Γs:List Env) (σ:S) (a:Act) (w:World),listT c ops l j al Γ=some Γs→WT c.gt σ w→Typed σ a Γ→Same a al →
 (∀ σ' a' w',Gx c σ σ' w w'→WT c.gt σ' w'→(∃ Γ'∈Γs,Typed σ' a' Γ')→Q .normal a' w')→wpList c.P ops.toArray Q l a w
 | [],j,al,Γ,Γs,σ,a,w,h,hw,ht,hs,hQ=>by
   cases h
   exact hQ σ a w (Gx.of1 (Go1.refl _ _)) hw ⟨Γ,by simp,ht⟩
 | o::r,j,al,Γ,Γs,σ,a,w,h,hw,ht,hs,hQ=>by
   unfold listT at h
   simp only [putK_eq,Env.forceK_eq,effK_eq] at h
   unfold wpList
   cases hb:wantT ops Γ o with
   | none=>simp [hb] at h
   | some b =>
     rw [want_ok ht hb]
     cases b with
     | false =>
       simp only [hb] at h
       simp only [Bool.false_eq_true,if_false]
       exact list_ok hc ops r (j+1) _ _ Γs σ _ w h hw (ht.put (τ := .und) rfl) (hs.drop o.dst undef) hQ
     | true =>
       simp only [hb] at h
       simp only [if_true]
       cases hO:absO c Γ.next Γ o with
       | some x =>
         obtain ⟨τ,tc,e⟩:=x
         simp only [hO] at h
         refine .inl (own_ok hc hw o (fun x _=>ty_ok hw ht x) hO (fun j' l' _ hl=>ht.rw.row hl) (fun _ _=>ht.rw.2 _ (Nat.le_refl _)) (fun v σ' w' g1 g2 g3 g4 => ?_))
         have hte:=ht.eff (g1.le hw) g4
         have fin : ∀ (Γ0:Env) (τ':T) (Γs':List Env),Typed σ' a Γ0→VT σ' v τ'→listT c ops r (j+1) (dropA al o.dst) (putT Γ0 o.dst τ')=some Γs'→(∀ x∈Γs',x∈Γs)→wpList c.P ops.toArray Q r (a.put o.dst v) w':=by
          intro Γ0 τ' Γs' h0 hv hl hsub
          refine list_ok hc ops r (j+1) _ _ Γs' σ' _ w' hl g2 (h0.put hv) (hs.drop o.dst v) (fun σ2 a2 w2 h1 h2 h3=>hQ σ2 a2 w2 ((Gx.of g1 (absO_own hO)).trans h1) h2 ?_)
          obtain ⟨Γ',hm,hh⟩:=h3
          exact ⟨Γ',hsub _ hm,hh⟩
         split at h
         ·rename_i t
          split at h
          ·obtain ⟨p,q,e1,e2,rfl⟩:=both_ok h
           obtain ⟨hrho,b,rfl⟩:=g3
           cases b with
           | true=>exact fin _ (.cb true) _ (hte.cond hrho) rfl e1 (fun x hx=>List.mem_append_left _ hx)
           | false=>exact fin _ (.cb false) _ (hte.cond hrho) rfl e2 (fun x hx=>List.mem_append_right _ hx)
          · exact fin _ _ _ hte g3 h (fun _ hx=>hx)
         · exact fin _ _ _ hte g3 h (fun _ hx=>hx)
       | none =>
       simp only [hO] at h
       cases hτ:absC c Γ o.op with
       | none=>simp [hτ] at h
       | some τ =>
         simp only [hτ] at h
         have op := @op_ok c σ w a Γ hc hw o (fun x _=>ty_ok hw ht x) τ hτ
         have next : ∀ (σ':S) (w':World) (v:Value) τ' Γ0 Γs' al',Go1 σ σ' w w'→WT c.gt σ' w'→Typed σ a Γ0→VT σ' v τ'→Same (a.put o.dst v) al'→listT c ops r (j+1) al' (putT Γ0 o.dst τ')=some Γs'→(∀ x∈Γs',x∈Γs)→wpList c.P ops.toArray Q r (a.put o.dst v) w':=by
          intro σ' w' v τ' Γ0 Γs' al' g1 g2 ht0 hv hsm hl hsub
          refine list_ok hc ops r (j+1) al' _ Γs' σ' _ w' hl g2 ((ht0.mono (g1.le hw) g1.pv).put hv) hsm (fun σ2 a2 w2 h1 h2 h3=>hQ σ2 a2 w2 ((Gx.of1 g1).trans h1) h2 ?_)
          obtain ⟨Γ',hm,hh⟩:=h3
          exact ⟨Γ',hsub _ hm,hh⟩
         have moved : ∀ (v:Value) (w':World),(execOp a.eval o).run c.P w = .ok (.value v) w' → ∀ s,o.op = .move (.tmp s)→v=a.tmps.getD s undef:=by
          intro v w' hr s hop
          have:(execOp a.eval o).run c.P w = .ok (.value (a.tmps.getD s undef)) w:=by
           obtain ⟨dst,oo,type,pos,after,guard⟩:=o
           dsimp only at hop
           subst hop
           rfl
          rw [this] at hr
          cases hr
          rfl
         have plain:listT c ops r (j+1) (nextA al o Γ.length) (putT Γ o.dst τ)=some Γs→o.wp c.P a w (wpList c.P ops.toArray Q r) Q:=by
          intro hl
          by_cases hmv : ∃ s,o.op = .move (.tmp s)
          ·obtain ⟨s,hop⟩:=hmv
           have hr:(execOp a.eval o).run c.P w = .ok (.value (a.tmps.getD s undef)) w:=by
            obtain ⟨dst,oo,type,pos,after,guard⟩:=o
            dsimp only at hop
            subst hop
            rfl
           have hτ':VT σ (a.tmps.getD s undef) τ:=by
            have h1:=ty_ok hw ht (.tmp s)
            have h2:absC c Γ o.op=some (ty c.gt Γ (.tmp s)):=by
             obtain ⟨dst,oo,type,pos,after,guard⟩:=o
             dsimp only at hop
             subst hop
             rfl
            rw [hτ] at h2
            cases h2
            exact h1
           exact wp_of_value hr (next σ w _ τ Γ Γs _ (Go1.refl _ _) hw ht hτ' (hs.next o _ ht.1 (fun s' hs'=>by rw [hop] at hs'; cases hs'; rfl)) hl (fun _ h=>h))
          · exact op (fun v σ' w' g1 g2 g3=>next σ' w' v τ Γ Γs _ g1 g2 ht g3 (hs.next o v ht.1 (fun s hs'=>absurd ⟨s,hs'⟩ hmv)) hl (fun _ h=>h))
         split at h
         · cases h
         ·rename_i a1 b1 heq
          cases heq
          obtain ⟨p,q,e1,e2,rfl⟩:=both_ok h
          refine .inl (op (fun v σ' w' g1 g2 g3 => ?_))
          rcases g3 with g3 | g3
          · exact next σ' w' v a1 Γ p _ g1 g2 ht g3 (hs.drop o.dst v) e1 (fun x hx=>List.mem_append_left _ hx)
          · exact next σ' w' v b1 Γ q _ g1 g2 ht g3 (hs.drop o.dst v) e2 (fun x hx=>List.mem_append_right _ hx)
         ·rename_i t heq
          cases heq
          split at h
          ·obtain ⟨p,q,e1,e2,rfl⟩:=both_ok h
           refine .inl (op (fun v σ' w' g1 g2 g3 => ?_))
           obtain ⟨hrho,b,rfl⟩:=g3
           have hrho':(σ.rho t)[0]? = some (.bool b):=by rw [← g1.rho]; exact hrho
           cases b with
           | true=>exact next σ' w' _ (.cb true) _ p _ g1 g2 (ht.cond hrho') rfl (hs.drop o.dst _) e1 (fun x hx=>List.mem_append_left _ hx)
           | false=>exact next σ' w' _ (.cb false) _ q _ g1 g2 (ht.cond hrho') rfl (hs.drop o.dst _) e2 (fun x hx=>List.mem_append_right _ hx)
          · exact .inl (plain h)
         ·rename_i heq
          cases heq
          split at h
          ·rename_i t k lo hi op' n hcs
           obtain ⟨p,q,e1,e2,rfl⟩:=both_ok h
           obtain ⟨m,hm,m1,m2,hop,hr⟩:=cmpS_ok hc hw ht hcs
           refine .inl (wp_of_value hr ?_)
           cases hv:cmpV op' m n with
           | true =>
             have:=rng_ok hop m1 m2 hv
             exact next σ w (.bool true) (.cb true) _ p _ (Go1.refl _ _) hw (refineA_ok ht hs hm this.1 this.2) rfl (hs.drop o.dst _) e1 (fun x hx=>List.mem_append_left _ hx)
           | false =>
             have:=rng_ok hop m1 m2 hv
             exact next σ w (.bool false) (.cb false) _ q _ (Go1.refl _ _) hw (refineA_ok ht hs hm this.1 this.2) rfl (hs.drop o.dst _) e2 (fun x hx=>List.mem_append_right _ hx)
          ·split at h
           ·obtain ⟨p,q,e1,e2,rfl⟩:=both_ok h
            refine .inl (op (fun v σ' w' g1 g2 g3 => ?_))
            obtain ⟨b,rfl⟩:=g3
            cases b with
            | true=>exact next σ' w' _ (.cb true) Γ p _ g1 g2 ht rfl (hs.drop o.dst _) e1 (fun x hx=>List.mem_append_left _ hx)
            | false=>exact next σ' w' _ (.cb false) Γ q _ g1 g2 ht rfl (hs.drop o.dst _) e2 (fun x hx=>List.mem_append_right _ hx)
           · exact .inl (plain h)
         ·rename_i τ' _ _ heq
          cases heq
          exact .inl (plain h)
end
def slots (o:Oper):List Tmp:=o.op.operands.toList.filterMap fun | .tmp t=>some t | _=>none
def dst (l:List Oper) (j:Nat):Option Tmp:=(l[j]?).bind (·.dst)
def isTmp (t:Tmp):Operand→Bool
 | .tmp t'=>t'==t
 | _=>false
def guardB (M:List Nat) (j:Nat) (o:Oper):Bool:=match o.guard with
 | none=>true
 | some (g,_)=>decide (g<j) && (M.getD j 0).testBit g
def pickB (l:List Oper) (t:Tmp) (oi:Oper):Op→Bool
 | .pick (.tmp x) y z=>match oi.guard with
   | some (g,b)=>dst l g==some x && x != t && !(isTmp t (if b then z else y))
   | none=>false
 | _=>false
def sameG (l:List Oper) (o:Oper) (t:Tmp) (oi:Oper):Bool:=oi.guard.isNone || oi.guard==o.guard || pickB l t oi o.op
def orderB (l:List Oper) (M:List Nat) (n:Nat):Bool :=
 (l.zipIdx.all fun (o,j)=>guardB M j o && (o.after.toList.all fun e => !Region.binds .any e || decide (e.on<j)) &&
  (match o.dst with | some d=>decide (d<n) && (l.zipIdx.all fun (o',i)=>i==j || o'.dst != some d) | none=>true) &&
  (slots o).all fun t=>l.zipIdx.all fun (o',i)=>o'.dst != some t || i==j || (if i<j then (M.getD j 0).testBit i && sameG l o t o' else (M.getD i 0).testBit j))
noncomputable def clearG (l:List Oper) (Γ:Env):Env:=match l with
 | []=>Γ
 | o::r=>clearG r (if o.guard.isSome then putT Γ o.dst .any else Γ)
def hiD (l:List Oper):Nat:=l.foldl (fun m o=>match o.dst with | some d=>max m (d+1) | none=>m) 0
def orderC (l:List Oper):Bool:=orderB l (Rc.masks .any l []) (hiD l)
def hits:Option Nat→Option Nat→Bool
 | some a,some b=>Nat.beq a b
 | _,_=>false
def hitL:Option Nat→List Nat→Bool
 | some a,l=>l.any fun b=>Nat.beq a b
 | none,_=>false
def dep (a b:Ef):Bool:=hits (a.2.map (·.1)) (b.2.map (·.1)) || (hitL (a.2.map (·.1)) b.1 || hitL (b.2.map (·.1)) a.1)
def orderE (l:List Oper) (es:List Ef):Bool :=
 (es.all fun e=>e.2.isNone) || (let M:=Rc.masks .any l []; es.zipIdx.all fun (b,j)=>es.zipIdx.all fun (a,i) => !(Nat.blt i j && dep a b) || (M.getD j 0).testBit i)
noncomputable def drawT (c:Ctx) (l:List Oper) (Γ:Env):Option Env :=
 if orderC l=true∧hiD l≤Γ.length then (match seqT c Γ.next l 0 Γ with
  | some (_,es,Γe)=>if orderE l es=true then some (clearG l Γe) else none
  | none=>none) else none
def At (l:List Oper) (τs:List T) (Γ:Env) (n:Nat) (Γn:Env):Prop :=
 Γn.length=Γ.length ∧ ∀ t:Nat,t<Γ.length→(∃ i τ,i<n∧dst l i=some t∧τs[i]? = some τ∧Γn.at t=some τ)∨((∀ i,i<n→dst l i≠some t)∧Γn.at t=Γ.at t)
theorem putT_length (Γ:Env) (d:Option Tmp) (τ:T):(putT Γ d τ).length=Γ.length:=by cases d <;> rfl
theorem eff_length (Γ:Env) (e:Option (Nat×List K)):(Γ.eff e).length=Γ.length:=by cases e <;> rfl
theorem eff_at (Γ:Env) (e:Option (Nat×List K)) (t:Nat):(Γ.eff e).at t=Γ.at t:=by cases e <;> rfl
theorem put_rw {f:Nat→Option (List K)} {Γ:Env} (h:Rw f Γ) (d:Option Tmp) (τ:T):Rw f (putT Γ d τ):=by cases d <;> exact h
def cur (es:List Ef) (f:Nat→Option (List K)) (p:Nat→Bool):Nat→Nat→Option (List K)
 | 0=>f
 | n+1=>if p n then upd (cur es f p n) ((es[n]?).bind (·.2)) else cur es f p n
theorem cur_cons (x:Ef) (es:List Ef) (f:Nat→Option (List K)) : ∀ n,cur (x::es) f (fun _=>true) (n+1)=cur es (upd f x.2) (fun _=>true) n
 | 0=>rfl
 | n+1=>by
   have ih:=cur_cons x es f n
   show upd (cur (x::es) f (fun _=>true) (n+1)) (((x::es)[n+1]?).bind (·.2))=upd (cur es (upd f x.2) (fun _=>true) n) ((es[n]?).bind (·.2))
   rw [ih]
   rfl
theorem seqT_at {c:Ctx} {n0:Nat} : ∀ (l:List Oper) (k:Nat) (Γ Γe:Env) (τs:List T) (es:List Ef) (f:Nat→Option (List K)),seqT c n0 l k Γ=some (τs,es,Γe)→(∀ i j,i≠j → ∀ d,dst l i=some d→dst l j≠some d)→Rw f Γ→Γ.next≤n0+k →
 (At l τs Γ l.length Γe∧es.length=l.length∧Rw (cur es f (fun _=>true) l.length) Γe) ∧ ∀ (j:Nat) (o:Oper),l[j]? = some o → ∃ τ x Γj,τs[j]? = some τ∧es[j]? = some x∧absX c (n0+(k+j)) Γj o=some (τ,x)∧At l τs Γ j Γj∧Rw (cur es f (fun _=>true) j) Γj∧Γj.next≤n0+(k+j)
 | [],k,Γ,Γe,τs,es,f,h,_,hw,_=>by
   cases h
   exact ⟨⟨⟨rfl,fun t _ => .inr ⟨fun i hi=>by simp at hi,rfl⟩⟩,rfl,hw⟩,fun j o hj=>by simp at hj⟩
 | o::r,k,Γ,Γe,τs,es,f,h,hd,hw,hk=>by
   unfold seqT at h
   simp only [putK_eq,effK_eq] at h
   cases hτ:absX c (n0+k) Γ o with
   | none=>simp [hτ] at h
   | some y =>
     obtain ⟨τ,x⟩:=y
     simp only [hτ] at h
     cases hr:seqT c n0 r (k+1) (putT (Γ.eff x.2) o.dst τ) with
     | none=>simp [hr] at h
     | some z =>
       obtain ⟨τs',es',Γ'⟩:=z
       simp only [hr] at h
       cases h
       have hnx:(putT (Γ.eff x.2) o.dst τ).next≤n0+(k+1):=by
        have e1:(putT (Γ.eff x.2) o.dst τ).next=(Γ.eff x.2).next:=by cases o.dst <;> rfl
        rw [e1]
        obtain ⟨tc,e⟩:=x
        cases e with
        | none=>exact Nat.le_trans hk (by omega)
        | some e =>
          obtain ⟨j,l⟩:=e
          have hO:absO c (n0+k) Γ o=some (τ,tc,some (j,l)):=by
           unfold absX at hτ
           split at hτ
           ·rename_i y hy
            split at hτ
            · cases hτ; exact hy
            · cases hτ
           · simp at hτ
          show max Γ.next (j+1)≤_
          rcases absO_eff hO with rfl | ⟨_,l',hl⟩
          · omega
          · have:=hw.lt (hw.row hl); omega
       have ih:=seqT_at r (k+1) (putT (Γ.eff x.2) o.dst τ) Γe τs' es' (upd f x.2) hr (fun i j hij d hdi=>by simpa [dst] using hd (i+1) (j+1) (by omega) d (by simpa [dst] using hdi)) (put_rw (hw.eff x.2) _ _) hnx
       have lift : ∀ n Γn,At r τs' (putT (Γ.eff x.2) o.dst τ) n Γn→At (o::r) (τ::τs') Γ (n+1) Γn:=by
        intro n Γn ⟨h1,h2⟩
        refine ⟨h1.trans ((putT_length ..).trans (eff_length ..)),fun t htl => ?_⟩
        rcases h2 t (by rw [putT_length,eff_length]; exact htl) with ⟨i,τ1,hi,h3,h4,h5⟩ | ⟨h3,h4⟩
        · exact .inl ⟨i+1,τ1,by omega,by simpa [dst] using h3,by simpa using h4,h5⟩
        ·by_cases ho:o.dst=some t
         ·refine .inl ⟨0,τ,by omega,by simpa [dst] using ho,rfl,?_⟩
          rw [h4,ho]
          exact Env.set_self (by rw [eff_length]; exact htl)
         ·refine .inr ⟨fun i hi => ?_,?_⟩
          ·cases i with
           | zero=>simpa [dst] using ho
           | succ i=>simpa [dst] using h3 i (by omega)
          ·rw [h4]
           cases hod:o.dst with
           | none=>exact eff_at ..
           | some d =>
             exact (Env.set_ne (fun e=>ho (by rw [hod,e]))).trans (eff_at ..)
       refine ⟨⟨lift _ _ ih.1.1,by simp [ih.1.2.1],?_⟩,fun j o' hj => ?_⟩
       ·rw [List.length_cons,cur_cons]
        exact ih.1.2.2
       cases j with
       | zero =>
         simp at hj
         subst hj
         exact ⟨τ,x,Γ,rfl,rfl,hτ,⟨rfl,fun t _ => .inr ⟨fun i hi=>by omega,rfl⟩⟩,hw,hk⟩
       | succ j =>
         obtain ⟨τ1,x1,Γj,h1,h2,h3,h4,h5,h6⟩:=ih.2 j o' (by simpa using hj)
         refine ⟨τ1,x1,Γj,by simpa using h1,by simpa using h2,by rw [show k+(j+1)=k+1+j by omega]; exact h3,lift _ _ h4,?_,by omega⟩
         rw [cur_cons]
         exact h5
structure Inv (c:Ctx) (l:List Oper) (τs:List T) (es:List Ef) (Γ:Env) (σ0:S) (w0:World) (listed:Array Bool) (a:Act) (w:World) (σ:S):Prop where
 go:Gx c σ0 σ w0 w
 pv:σ.pv=cur es σ0.pv (fun i=>listed.getD i false) l.length
 wt:WT c.gt σ w
 len:Γ.length≤a.tmps.size
 defers:a.defers = [] ∧ ∀ x∈Γ.pc,(σ.rho x.1)[0]? = some (.bool x.2)
 head:HeadInv .any l.toArray l.length listed
 done : ∀ j t τ o,listed.getD j false=true→dst l j=some t→τs[j]? = some τ→l[j]? = some o→Region.wanted o (yielded l.toArray a.tmps)=true→VT σ (a.tmps.getD t undef) τ
 old : ∀ (t:Nat) (τ:T),(∀ j,listed.getD j false=true→dst l j≠some t)→Γ.at t=some τ→VT σ (a.tmps.getD t undef) τ
theorem tmps_put {a:Act} {d:Option Tmp} {v:Value} {t:Nat} (h:d≠some t):(a.put d v).tmps.getD t undef=a.tmps.getD t undef:=by
 cases d with
 | none=>rfl
 | some d =>
   show (a.tmps.setIfInBounds d v).getD t undef=_
   rw [Array.getD_eq_getD_getElem?,Array.getD_eq_getD_getElem?,Array.getElem?_setIfInBounds_ne (fun e=>h (by rw [e]))]
theorem tmps_put_self {a:Act} {d:Nat} {v:Value} (h:d<a.tmps.size):(a.put (some d) v).tmps.getD d undef=v:=by
 show (a.tmps.setIfInBounds d v).getD d undef=v
 rw [Array.getD_eq_getD_getElem?,Array.getElem?_setIfInBounds_self_of_lt h]
 rfl
structure Ord (l:List Oper) (n:Nat):Prop where
 guard : ∀ (j:Nat) (o:Oper) (g:Nat) (b:Bool),l[j]? = some o→o.guard=some (g,b)→Rc.Anc .any l.toArray g j
 edge : ∀ (j:Nat) (o:Oper),l[j]? = some o → ∀ e∈o.after,Region.binds .any e=true→e.on<j
 dlt : ∀ j d,dst l j=some d→d<n
 dne : ∀ i j,i≠j → ∀ d,dst l i=some d→dst l j≠some d
 look : ∀ (j:Nat) (o:Oper) (t:Nat),l[j]? = some o→t∈slots o → ∀ i,dst l i=some t→i=j∨(i<j∧Rc.Anc .any l.toArray i j ∧ ∀ oi,l[i]? = some oi→sameG l o t oi=true)∨(j<i∧Rc.Anc .any l.toArray j i)
theorem orderB_ok {l:List Oper} {n:Nat} (h:orderB l (Rc.masks .any l []) n=true):Ord l n:=by
 have hM : ∀ j i,((Rc.masks .any l []).getD j 0).testBit i=true→Rc.Anc .any l.toArray i j :=
  Rc.masks_anc _ [] (fun t ht=>by simp) (fun j i hj=>by simp at hj)
 generalize Rc.masks .any l []=M at *
 unfold orderB at h
 rw [List.all_eq_true] at h
 have each : ∀ (j:Nat) (o:Oper),l[j]? = some o→_:=fun j o hj=>h (o,j) (by rw [List.mk_mem_zipIdx_iff_getElem?]; exact hj)
 simp only [Bool.and_eq_true] at each
 have dj : ∀ j d,dst l j=some d → ∃ o,l[j]? = some o∧o.dst=some d:=fun j d hd=>by
  unfold dst at hd
  cases ho:l[j]? with
  | none=>simp [ho] at hd
  | some o=>exact ⟨o,rfl,by simpa [ho] using hd⟩
 refine ⟨fun j o g b hj hg => ?_,fun j o hj e he hb => ?_,fun j d hd => ?_,fun i j hij d hi hj => ?_,fun j o t hj ht i hi => ?_⟩
 ·have:=(each j o hj).1.1.1
  unfold guardB at this
  rw [hg] at this
  simp only [Bool.and_eq_true,decide_eq_true_eq] at this
  exact hM _ _ this.2
 ·have:=List.all_eq_true.1 (each j o hj).1.1.2 e (by simpa using he)
  simpa [hb] using this
 ·obtain ⟨o,ho,hod⟩:=dj j d hd
  have:=(each j o ho).1.2
  simp only [hod,Bool.and_eq_true,decide_eq_true_eq] at this
  exact this.1
 ·obtain ⟨o,ho,hod⟩:=dj i d hi
  obtain ⟨o',ho',hod'⟩:=dj j d hj
  have:=(each i o ho).1.2
  simp only [hod,Bool.and_eq_true,decide_eq_true_eq] at this
  have h2:=List.all_eq_true.1 this.2 (o',j) (by rw [List.mk_mem_zipIdx_iff_getElem?]; exact ho')
  simp only [Bool.or_eq_true,beq_iff_eq,bne_iff_ne] at h2
  rcases h2 with e | e
  · exact hij e.symm
  · exact e hod'
 ·obtain ⟨o',ho',hod'⟩:=dj i t hi
  have h1:=List.all_eq_true.1 (each j o hj).2 t ht
  have h2:=List.all_eq_true.1 h1 (o',i) (by rw [List.mk_mem_zipIdx_iff_getElem?]; exact ho')
  simp only [Bool.or_eq_true,beq_iff_eq,bne_iff_ne] at h2
  rcases h2 with (e | e) | e
  · exact absurd hod' e
  · exact .inl e
  ·by_cases hlt:i<j
   ·rw [if_pos hlt,Bool.and_eq_true] at e
    refine .inr (.inl ⟨hlt,hM _ _ e.1,fun oi hoi => ?_⟩)
    rw [ho'] at hoi
    cases hoi
    exact e.2
   ·rw [if_neg hlt] at e
    by_cases hij:i=j
    · exact .inl hij
    · exact .inr (.inr ⟨by omega,hM _ _ e⟩)
theorem mem_slots {o:Oper} {t:Nat} (h:Operand.tmp t∈o.op.operands):t∈slots o:=by
 unfold slots
 rw [List.mem_filterMap]
 exact ⟨.tmp t,by simpa using h,rfl⟩
theorem ty_op {gt:Gt} {σ:S} {w:World} {a:Act} {Γ:Env} (hw:WT gt σ w) (x:Operand) (h : ∀ t τ,x = .tmp t→Γ.at t=some τ→VT σ (a.tmps.getD t undef) τ):VT σ (a.eval x) (ty gt Γ x):=by
 unfold ty
 split
 ·rename_i t
  cases h':Γ.at t with
  | none=>exact trivial
  | some τ=>exact h t τ rfl h'
 · exact ⟨_,rfl,Int.le_refl _,Int.le_refl _⟩
 · exact rfl
 · exact rfl
 · exact rfl
 ·rename_i g
  split
  ·rename_i l hl
   exact ⟨g,false,rfl,hw.tab g l (gOf_mem hl),fun h=>nomatch h⟩
  · exact trivial
 · exact trivial
theorem clearG_length : ∀ (l:List Oper) (Γ:Env),(clearG l Γ).length=Γ.length
 | [],_=>rfl
 | o::r,Γ=>by
   unfold clearG
   rw [clearG_length r]
   split
   · exact putT_length ..
   · rfl
theorem clearG_at : ∀ (l:List Oper) (Γ:Env) {t:Nat} {τ:T},(clearG l Γ).at t=some τ→τ = .any∨(Γ.at t=some τ ∧ ∀ (j:Nat) (o:Oper),l[j]? = some o→o.dst=some t→o.guard=none)
 | [],Γ,t,τ,h => .inr ⟨h,fun j o hj=>by simp at hj⟩
 | o::r,Γ,t,τ,h=>by
   unfold clearG at h
   rcases clearG_at r _ h with e | ⟨e1,e2⟩
   · exact .inl e
   ·by_cases hg:o.guard.isSome=true
    ·rw [if_pos hg] at e1
     by_cases hd:o.dst=some t
     ·rw [hd] at e1
      have hlt:=Env.lt e1
      have e1:(Γ.set t .any).at t=some τ:=e1
      rw [Env.set_self (show t<Γ.length from hlt)] at e1
      exact .inl (Option.some.inj e1).symm
     ·refine .inr ⟨?_,fun j o' hj hd' => ?_⟩
      ·cases hod:o.dst with
       | none=>rw [hod] at e1; exact e1
       | some d =>
         rw [hod] at e1
         have e1:(Γ.set d .any).at t=some τ:=e1
         rwa [Env.set_ne (fun e=>hd (by rw [hod,e]))] at e1
      ·cases j with
       | zero=>simp at hj; subst hj; exact absurd hd' hd
       | succ j=>exact e2 j o' (by simpa using hj) hd'
    ·rw [if_neg hg] at e1
     refine .inr ⟨e1,fun j o' hj hd' => ?_⟩
     cases j with
     | zero=>simp at hj; subst hj; simpa using hg
     | succ j=>exact e2 j o' (by simpa using hj) hd'
theorem wanted_none {o:Oper} (h:o.guard=none) (f:Nat→Option Bool):Region.wanted o f=true:=by unfold Region.wanted; rw [h]
theorem yielded_put {l:List Oper} {a:Act} {d:Option Tmp} {v:Value} {g:Nat} (h : ∀ t,dst l g=some t→d≠some t):yielded l.toArray (a.put d v).tmps g=yielded l.toArray a.tmps g:=by
 have e:(l.toArray[g]?).bind (·.dst)=dst l g:=by simp [dst]
 unfold yielded
 rw [e]
 cases ht:dst l g with
 | none=>rfl
 | some t =>
   have hne:=h t ht
   have e2:(a.put d v).tmps[t]? = a.tmps[t]? := by
    cases d with
    | none=>rfl
    | some d =>
      show (a.tmps.setIfInBounds d v)[t]? = _
      exact Array.getElem?_setIfInBounds_ne (fun e=>hne (by rw [e]))
   simp only [Option.bind_some,e2]
theorem wanted_put {l:List Oper} {a:Act} {d:Option Tmp} {v:Value} {o:Oper} (h : ∀ g b,o.guard=some (g,b) → ∀ t,dst l g=some t→d≠some t):Region.wanted o (yielded l.toArray (a.put d v).tmps)=Region.wanted o (yielded l.toArray a.tmps):=by
 unfold Region.wanted
 cases hg:o.guard with
 | none=>rfl
 | some x =>
   obtain ⟨g,b⟩:=x
   dsimp only
   rw [yielded_put (h g b hg)]
theorem yielded_at {l:List Oper} {a:Act} {g:Nat} {x:Tmp} {b:Bool} (hg:dst l g=some x) (hx:a.eval (.tmp x) = .bool b):yielded l.toArray a.tmps g=some b:=by
 have e:(l.toArray[g]?).bind (·.dst)=dst l g:=by simp [dst]
 unfold yielded
 rw [e,hg]
 have hx:a.tmps.getD x undef = .bool b:=hx
 rw [Array.getD_eq_getD_getElem?] at hx
 cases ht:a.tmps[x]? with
 | none=>rw [ht] at hx; cases hx
 | some v =>
   rw [ht] at hx
   have hx:v = .bool b:=hx
   simp only [Option.bind_some,ht,hx]
theorem clearG_rows : ∀ (l:List Oper) (Γ:Env),(clearG l Γ).rows=Γ.rows∧(clearG l Γ).next=Γ.next∧(clearG l Γ).pc=Γ.pc
 | [],_=>⟨rfl,rfl,rfl⟩
 | o::r,Γ=>by
   unfold clearG
   obtain ⟨h1,h2,h3⟩:=clearG_rows r (if o.guard.isSome then putT Γ o.dst .any else Γ)
   rw [h1,h2,h3]
   split
   · cases o.dst <;> exact ⟨rfl,rfl,rfl⟩
   · exact ⟨rfl,rfl,rfl⟩
theorem seqT_pc {c:Ctx} {n0:Nat} : ∀ (l:List Oper) (k:Nat) (Γ Γe:Env) (τs:List T) (es:List Ef),seqT c n0 l k Γ=some (τs,es,Γe)→Γe.pc=Γ.pc
 | [],k,Γ,Γe,τs,es,h=>by cases h; rfl
 | o::r,k,Γ,Γe,τs,es,h=>by
   unfold seqT at h
   simp only [putK_eq,effK_eq] at h
   split at h
   · cases h
   ·split at h
    · cases h
    ·rename_i τ x _ _ _ _ _ hr
     cases h
     rw [seqT_pc r _ _ _ _ _ hr]
     have e1:(putT (Γ.eff x.2) o.dst τ).pc=(Γ.eff x.2).pc:=by cases o.dst <;> rfl
     rw [e1]
     cases x.2 <;> rfl
structure OrdE (l:List Oper) (es:List Ef):Prop where
 lt : ∀ (i j:Nat) (a b:Ef),i<j→es[i]? = some a→es[j]? = some b→dep a b=true→Rc.Anc .any l.toArray i j
theorem orderE_ok {l:List Oper} {es:List Ef} (h:orderE l es=true):OrdE l es:=by
 have hM : ∀ j i,((Rc.masks .any l []).getD j 0).testBit i=true→Rc.Anc .any l.toArray i j :=
  Rc.masks_anc _ [] (fun t ht=>by simp) (fun j i hj=>by simp at hj)
 refine ⟨fun i j a b hij ha hb hd => ?_⟩
 unfold orderE at h
 rw [Bool.or_eq_true] at h
 rcases h with h | h
 ·exfalso
  rw [List.all_eq_true] at h
  have h1:=h a (List.mem_of_getElem? ha)
  have h2:=h b (List.mem_of_getElem? hb)
  rw [Option.isNone_iff_eq_none] at h1 h2
  unfold dep at hd
  rw [h1,h2] at hd
  simp [hits,hitL] at hd
 ·rw [List.all_eq_true] at h
  have h1:=h (b,j) (by rw [List.mk_mem_zipIdx_iff_getElem?]; exact hb)
  rw [List.all_eq_true] at h1
  have h2:=h1 (a,i) (by rw [List.mk_mem_zipIdx_iff_getElem?]; exact ha)
  dsimp only at h2
  rw [hd,blt_true hij] at h2
  exact hM j i (by simpa using h2)
def onRow (es:List Ef) (n q:Nat):Prop := ∃ l,(es[n]?).bind (·.2)=some (q,l)
theorem upd_off {f:Nat→Option (List K)} {e:Option (Nat×List K)} {q:Nat} (h : ¬ ∃ l,e=some (q,l)):upd f e q=f q:=by
 cases e with
 | none=>rfl
 | some e =>
   obtain ⟨j,l⟩:=e
   exact if_neg fun e=>h ⟨l,by rw [e]⟩
theorem cur_skip {es:List Ef} {f:Nat→Option (List K)} {p:Nat→Bool} {q m:Nat} : ∀ n,m≤n→(∀ i,m≤i→i<n→onRow es i q→p i=false)→cur es f p n q=cur es f p m q
 | 0,hm,_=>by obtain rfl:m=0:=by omega
              rfl
 | n+1,hm,h=>by
   rcases Nat.lt_or_ge n m with hlt | hge
   ·obtain rfl:m=n+1:=by omega
    rfl
   ·have ih:=cur_skip (f:=f) n hge (fun i h1 h2=>h i h1 (by omega))
    show (if p n=true then upd (cur es f p n) ((es[n]?).bind (·.2)) else cur es f p n) q=cur es f p m q
    by_cases ho:onRow es n q
    ·rw [h n hge (by omega) ho]
     simpa using ih
    ·split
     · rw [upd_off ho]; exact ih
     · exact ih
theorem cur_same {es:List Ef} {f:Nat→Option (List K)} {p p':Nat→Bool} {q:Nat} : ∀ n,(∀ i,i<n→onRow es i q→p i=p' i)→cur es f p n q=cur es f p' n q
 | 0,_=>rfl
 | n+1,h=>by
   have ih:=cur_same (f:=f) n (fun i h1=>h i (by omega))
   unfold cur
   by_cases ho:onRow es n q
   ·rw [h n (by omega) ho]
    split
    ·obtain ⟨l,hl⟩:=ho
     rw [hl]
     show (if q=q then some l else _)=(if q=q then some l else _)
     rw [if_pos rfl,if_pos rfl]
    · exact ih
   ·have e1 : ∀ (b:Bool) (g:Nat→Option (List K)),(if b=true then upd g ((es[n]?).bind (·.2)) else g) q=g q:=fun b g=>by
     cases b
     · rfl
     · exact upd_off ho
    rw [e1,e1]
    exact ih
theorem any_ok {c:Ctx} (hc:c.Ok) {Q:Exit→Act→World→Prop} {l:List Oper} {Γ Γe:Env} {τs:List T} {es:List Ef} (hs:seqT c Γ.next l 0 Γ=some (τs,es,Γe)) (ho:Ord l Γ.length) (hoe:OrdE l es) {σ0:S} {w0:World} (hrw:Rw σ0.pv Γ)
 (hQ : ∀ σ a w,Gx c σ0 σ w0 w→WT c.gt σ w→Typed σ a (clearG l Γe)→Q .normal a w) :
 ∀ (f:Nat) (listed:Array Bool) (a:Act) (w:World) (σ:S),Inv c l τs es Γ σ0 w0 listed a w σ→Rc.cnt listed l.length=f→wpAny c.P .any l.toArray Q f listed a w:=by
 have hat':=seqT_at l 0 Γ Γe τs es σ0.pv hs ho.dne hrw (Nat.le_refl _)
 have hat:At l τs Γ l.length Γe∧_:=⟨hat'.1.1,hat'.2⟩
 have fin : ∀ (listed:Array Bool) (a:Act) (w:World) (σ:S),Inv c l τs es Γ σ0 w0 listed a w σ→(∀ i,i<l.length→listed.getD i false=true)→Q .normal a w:=by
  intro listed a w σ inv hall
  have hpv:Rw σ.pv Γe:=by
   rw [inv.pv,show cur es σ0.pv (fun i=>listed.getD i false) l.length=cur es σ0.pv (fun _=>true) l.length from funext fun q=>cur_same _ fun i hi _=>hall i hi]
   exact hat'.1.2.2
  have hpv':Rw σ.pv (clearG l Γe):=by
   obtain ⟨e1,e2,_⟩:=clearG_rows l Γe
   exact ⟨by rw [e1]; exact hpv.1,by rw [e2]; exact hpv.2⟩
  refine hQ σ a w inv.go inv.wt ⟨Nat.le_trans (Nat.le_of_eq ((clearG_length ..).trans hat.1.1)) inv.len,⟨inv.defers.1,by rw [(clearG_rows l Γe).2.2,seqT_pc l 0 Γ Γe τs es hs]; exact inv.defers.2⟩,fun t τ ht => ?_,hpv'⟩
  rcases clearG_at l Γe ht with rfl | ⟨ht,hgn⟩
  · exact trivial
  have htl:t<Γ.length:=by rw [← hat.1.1]; exact Env.lt ht
  rcases hat.1.2 t htl with ⟨i,τ1,hi,h1,h2,h3⟩ | ⟨h1,h2⟩
  ·rw [ht] at h3
   cases h3
   have hoi:l[i]? = some (l[i]'hi):=List.getElem?_eq_getElem hi
   refine inv.done i t τ _ (hall i hi) h1 h2 hoi (wanted_none (hgn i _ hoi ?_) _)
   unfold dst at h1
   rw [hoi] at h1
   exact h1
  ·refine inv.old t τ (fun j _ => ?_) (by rw [← h2]; exact ht)
   rcases Nat.lt_or_ge j l.length with hj | hj
   · exact h1 j hj
   ·unfold dst
    rw [List.getElem?_eq_none hj]
    simp
 have nready : ∀ (listed:Array Bool) (a:Act) (w:World) (σ:S),Inv c l τs es Γ σ0 w0 listed a w σ→Region.ready .any l.toArray listed = [] → ∀ i,i<l.length→listed.getD i false=true:=by
  intro listed a w σ inv hr i
  induction i using Nat.strongRecOn with
  | _ i ih =>
    intro hi
    cases hl:listed.getD i false with
    | true=>rfl
    | false =>
      exfalso
      have:i∈Region.ready .any l.toArray listed:=by
       rw [mem_ready]
       have hsz:i<listed.size:=by rw [inv.head.size]; simpa using hi
       refine ⟨getD_in hsz hl,l[i],by simp [hi],fun e he hb => ?_⟩
       have:=ho.edge i l[i] (List.getElem?_eq_getElem hi) e he hb
       exact ih e.on this (by omega)
      rw [hr] at this
      cases this
 intro f
 induction f with
 | zero =>
   intro listed a w σ inv hcnt
   have hall:=Rc.cnt_zero l.length hcnt
   refine ⟨?_,fin listed a w σ inv hall⟩
   rw [List.eq_nil_iff_forall_not_mem]
   intro i hi
   obtain ⟨h1,o,h2,_⟩:=mem_ready.1 hi
   have hlt:i<l.length:=by have:=(Array.getElem?_eq_some_iff.1 h2).1; simpa using this
   have:=hall i hlt
   rw [getD_both h1] at this
   cases this
 | succ f ih =>
   intro listed a w σ inv hcnt
   refine ⟨fun hr=>fin listed a w σ inv (nready listed a w σ inv hr),fun j hj => ?_⟩
   obtain ⟨hun,o,hoj',hdeps⟩:=mem_ready.1 hj
   have hoj:l[j]? = some o:=by simpa using hoj'
   have hjl:j<l.length:=(List.getElem?_eq_some_iff.1 hoj).1
   have hunf:=getD_both hun
   obtain ⟨τ,ef,Γj,h1,hes,h2,h3,hrj,hnx⟩:=hat'.2 j o hoj
   rw [Nat.zero_add] at h2 hnx
   unfold wpOp
   rw [hoj']
   have hdj:dst l j=o.dst:=by unfold dst; rw [hoj]; rfl
   have hsz:j<listed.size:=by rw [inv.head.size]; simpa using hjl
   have hcnt':Rc.cnt (listed.setIfInBounds j true) l.length=f:=by
    have:=Rc.cnt_set hunf hsz l.length hjl
    omega
   have stayG : ∀ (i:Nat) (oi:Oper) (v:Value),l[i]? = some oi→(listed.getD i false=true∨i=j)→Region.wanted oi (yielded l.toArray (a.put o.dst v).tmps)=Region.wanted oi (yielded l.toArray a.tmps):=by
    intro i oi v hoi hli
    refine wanted_put fun g b hg t hdg e => ?_
    have hA:=ho.guard i oi g b hoi hg
    have hlg:listed.getD g false=true:=by
     rcases hli with h | rfl
     · exact hA.inL inv.head h
     · exact hA.ready inv.head hj
    have hgj:g≠j:=fun e=>by rw [e,hunf] at hlg; cases hlg
    exact ho.dne g j hgj t hdg (hdj.trans e)
   have late : ∀ (i q:Nat),(q∈ef.1∨ef.2.map (·.1)=some q)→j<i→onRow es i q→listed.getD i false=false:=by
    intro i q hq hji hor
    obtain ⟨lr,hl⟩:=hor
    cases hei:es[i]? with
    | none=>rw [hei] at hl; cases hl
    | some ei =>
      rw [hei] at hl
      have hl:ei.2=some (q,lr):=hl
      cases hli:listed.getD i false with
      | false=>rfl
      | true =>
        have hA:=hoe.lt j i ef ei hji hes hei (by
         unfold dep
         rcases hq with hq | hq
         · rw [hl]; simp [hits,hitL]; exact .inr (.inr hq)
         · rw [hq,hl]; simp [hits])
        have:=hA.inL inv.head hli
        rw [hunf] at this
        cases this
   have early : ∀ (i q:Nat),(q∈ef.1∨ef.2.map (·.1)=some q)→i<j→onRow es i q→listed.getD i false=true:=by
    intro i q hq hij hor
    obtain ⟨lr,hl⟩:=hor
    cases hei:es[i]? with
    | none=>rw [hei] at hl; cases hl
    | some ei =>
      rw [hei] at hl
      have hl:ei.2=some (q,lr):=hl
      exact (hoe.lt i j ei ef hij hei hes (by
       unfold dep
       rcases hq with hq | hq
       · rw [hl]; simp [hits,hitL]; exact .inr (.inl hq)
       · rw [hq,hl]; simp [hits])).ready inv.head hj
   have view : ∀ q,(q∈ef.1∨ef.2.map (·.1)=some q)→σ.pv q=cur es σ0.pv (fun _=>true) j q:=by
    intro q hq
    rw [inv.pv,cur_skip l.length (Nat.le_of_lt hjl) (fun i h1 h2 hor => ?_)]
    · exact cur_same _ fun i hi hor=>early i q hq hi hor
    ·rcases Nat.lt_or_ge j i with h | h
     · exact late i q hq h hor
     ·obtain rfl:i=j:=by omega
      exact hunf
   have after : ∀ f':Nat→Option (List K),f'=upd σ.pv ef.2→f'=cur es σ0.pv (fun i=>(listed.setIfInBounds j true).getD i false) l.length:=by
    intro f' hf'
    funext q
    rw [hf']
    have hset:(listed.setIfInBounds j true).getD j false=true:=by simp [hsz]
    by_cases hor:onRow es j q
    ·obtain ⟨lr,hl⟩:=hor
     rw [hes] at hl
     have hl:ef.2=some (q,lr):=hl
     rw [cur_skip (m:=j+1) l.length hjl (fun i h1 h2 hor=>by rw [getD_set_ne false (by omega)]; exact late i q (.inr (by rw [hl]; rfl)) h1 hor)]
     unfold cur
     rw [hset,if_pos rfl,hes]
     show upd σ.pv ef.2 q=upd _ ef.2 q
     rw [hl]
     show (if q=q then some lr else _)=(if q=q then some lr else _)
     rw [if_pos rfl,if_pos rfl]
    ·have hno : ¬ ∃ lr,ef.2=some (q,lr):=fun ⟨lr,h⟩=>hor ⟨lr,by rw [hes]; exact h⟩
     rw [upd_off hno,inv.pv]
     refine cur_same _ fun i hi hor' => ?_
     by_cases hij:i=j
     · subst hij; exact absurd hor' hor
     · exact (getD_set_ne false (Ne.symm hij)).symm
   have go : ∀ (v:Value) (w':World) (σ':S),Gx c σ σ' w w'→WT c.gt σ' w'→(Region.wanted o (yielded l.toArray a.tmps)=true→VT σ' v τ)→σ'.pv=upd σ.pv ef.2→wpAny c.P .any l.toArray Q f (listed.setIfInBounds j true) (a.put o.dst v) w':=by
    intro v w' σ' g1 g2 g3 g4
    have hle:=g1.go.le inv.wt
    refine ih _ _ w' σ' ⟨inv.go.trans g1,after _ g4,g2,?_,?_,inv.head.set hj hjl,fun i t τ' oi hli hdi hτi hoi hwi => ?_,fun t τ' hno hΓ => ?_⟩ hcnt'
    ·refine Nat.le_trans inv.len (Nat.le_of_eq ?_)
     cases o.dst <;> simp [Act.put]
    · cases o.dst <;> exact ⟨inv.defers.1,fun x hx=>hle.rho _ _ _ (inv.defers.2 x hx)⟩
    ·by_cases hij:i=j
     ·subst hij
      rw [h1] at hτi
      cases hτi
      rw [hoj] at hoi
      cases hoi
      rw [stayG i o v hoj (.inr rfl)] at hwi
      have hod:o.dst=some t:=by rw [← hdj]; exact hdi
      rw [hod]
      have:t<a.tmps.size:=Nat.lt_of_lt_of_le (ho.dlt i t hdi) inv.len
      rw [tmps_put_self this]
      exact g3 hwi
     ·have hli':listed.getD i false=true:=by
       rwa [getD_set_ne false (Ne.symm hij)] at hli
      rw [stayG i oi v hoi (.inl hli')] at hwi
      have hne:o.dst≠some t:=by rw [← hdj]; exact ho.dne i j hij t hdi
      rw [tmps_put hne]
      exact (inv.done i t τ' oi hli' hdi hτi hoi hwi).mono hle
    ·have hne:o.dst≠some t:=by
      rw [← hdj]
      refine hno j ?_
      simp [hsz]
     rw [tmps_put hne]
     refine (inv.old t τ' (fun i hli=>hno i ?_) hΓ).mono hle
     by_cases hij:i=j
     · subst hij; rw [hunf] at hli; cases hli
     · rw [getD_set_ne false (Ne.symm hij)]; exact hli
   by_cases hwant:Region.wanted o (yielded l.toArray a.tmps)=true
   case neg =>
    simp only [hwant]
    refine go undef w σ (Gx.of1 (Go1.refl _ _)) inv.wt (fun h=>absurd h hwant) ?_
    unfold absX at h2
    split at h2
    ·split at h2
     ·rename_i hg
      cases h2
      rw [Bool.or_eq_true] at hg
      rcases hg with hg | hg
      · exact absurd (wanted_none (by simpa using hg) _) hwant
      · rw [Option.isNone_iff_eq_none.1 hg]; rfl
     · cases h2
    ·rw [Option.map_eq_some_iff] at h2
     obtain ⟨τ0,_,h2⟩:=h2
     cases h2
     rfl
   simp only [hwant,if_true]
   have typed : ∀ t τ',t∈slots o→Γj.at t=some τ'→(∀ i oi,dst l i=some t→l[i]? = some oi→sameG l o t oi=true→Region.wanted oi (yielded l.toArray a.tmps)=true)→VT σ (a.tmps.getD t undef) τ':=by
    intro t τ' hts hΓ hwo
    have htl:t<Γ.length:=by rw [← h3.1]; exact Env.lt hΓ
    rcases h3.2 t htl with ⟨i,τ1,hi,h4,h5,h6⟩ | ⟨h4,h5⟩
    ·rw [hΓ] at h6
     cases h6
     rcases ho.look j o t hoj hts i h4 with e | ⟨_,hA,hG⟩ | ⟨hlt,_⟩
     · omega
     ·have hil:i<l.length:=by omega
      have hoi:l[i]? = some (l[i]'hil):=List.getElem?_eq_getElem hil
      exact inv.done i t τ' _ (hA.ready inv.head hj) h4 h5 hoi (hwo i _ h4 hoi (hG _ hoi))
     · omega
    ·refine inv.old t τ' (fun i hli hdi => ?_) (by rw [← h5]; exact hΓ)
     rcases ho.look j o t hoj hts i hdi with e | ⟨hlt,_⟩ | ⟨_,hA⟩
     · subst e; rw [hunf] at hli; cases hli
     · exact h4 i hlt hdi
     ·have:=hA.inL inv.head hli
      rw [hunf] at this
      cases this
   have base : ∀ oi,(oi.guard.isNone || oi.guard==o.guard)=true→Region.wanted oi (yielded l.toArray a.tmps)=true:=by
    intro oi h
    rw [Bool.or_eq_true] at h
    rcases h with h | h
    · exact wanted_none (by simpa using h) _
    ·rw [beq_iff_eq] at h
     unfold Region.wanted at hwant ⊢
     rw [h]
     exact hwant
   refine .inl ?_
   have np : ∀ t oi,(∀ x y z,o.op ≠ .pick x y z)→sameG l o t oi=true→(oi.guard.isNone || oi.guard==o.guard)=true:=by
    intro t oi hp hs
    unfold sameG at hs
    rw [Bool.or_eq_true] at hs
    rcases hs with hs | hs
    · exact hs
    ·unfold pickB at hs
     split at hs
     ·rename_i x y z hop
      exact absurd hop (hp _ _ _)
     · cases hs
   have tys:(∀ x y z,o.op ≠ .pick x y z) → ∀ x∈o.op.operands,VT σ (a.eval x) (ty c.gt Γj x):=fun hp x hx =>
    ty_op inv.wt x (fun t τ' hxt hΓ=>typed t τ' (mem_slots (by rw [← hxt]; exact hx)) hΓ (fun i oi hdi hoi hsg=>base oi (np t oi hp hsg)))
   unfold absX at h2
   split at h2
   ·rename_i y hO
    split at h2
    ·cases h2
     have hnp : ∀ x y z,o.op ≠ .pick x y z:=fun x y z e=>by
      unfold absO at hO
      split at hO
      · cases hO
      ·split at hO
       ·rename_i h1
        unfold absO1 at h1
        rw [e] at h1
        cases h1
       ·unfold absO0 at hO
        rw [e] at hO
        cases hO
     refine own_ok hc inv.wt o (tys hnp) hO (fun q lq hq hl => ?_) (fun lq he => ?_) (fun v σ' w' g1 g2 g3 g4=>go v w' σ' (Gx.of g1 (absO_own hO)) g2 (fun _=>g3) g4)
     ·rw [view q (.inl hq)]
      exact hrj.row hl
     ·rw [view _ (.inr (by rw [he]; rfl))]
      exact hrj.2 _ hnx
    · cases h2
   rw [Option.map_eq_some_iff] at h2
   obtain ⟨τ0,h2,he⟩:=h2
   cases he
   by_cases hp : ∃ x y z,o.op = .pick x y z
   ·obtain ⟨x,y,z,hop⟩:=hp
    have hts : ∀ u,u=x∨u=y∨u=z → ∀ t,u = .tmp t→t∈slots o:=fun u hu t ht=>mem_slots (by rw [hop]; subst ht; rcases hu with h | h | h <;> rw [h] <;> simp [Op.operands])
    have hx:VT σ (a.eval x) (ty c.gt Γj x):=ty_op inv.wt x (fun t τ' hxt hΓ=>typed t τ' (hts x (.inl rfl) t hxt) hΓ (fun i oi hdi hoi hsg=>base oi (by
     unfold sameG at hsg
     rw [Bool.or_eq_true] at hsg
     rcases hsg with hsg | hsg
     · exact hsg
     ·exfalso
      rw [hop,hxt] at hsg
      simp only [pickB] at hsg
      cases hg:oi.guard with
      | none=>simp [hg] at hsg
      | some gb =>
        obtain ⟨g,b⟩:=gb
        simp [hg] at hsg)))
    have arm : ∀ (bv:Bool),a.eval x = .bool bv→VT σ (a.eval (if bv then y else z)) (ty c.gt Γj (if bv then y else z)):=by
     intro bv hbv
     refine ty_op inv.wt _ (fun t τ' hyt hΓ=>typed t τ' (hts _ (by cases bv <;> simp) t hyt) hΓ (fun i oi hdi hoi hsg => ?_))
     unfold sameG at hsg
     rw [Bool.or_eq_true] at hsg
     rcases hsg with hsg | hsg
     · exact base oi hsg
     ·rw [hop] at hsg
      cases x with
      | tmp xt =>
        simp only [pickB] at hsg
        cases hg:oi.guard with
        | none=>simp [hg] at hsg
        | some gb =>
          obtain ⟨g,b⟩:=gb
          simp only [hg,Bool.and_eq_true,beq_iff_eq,bne_iff_ne,Bool.not_eq_true'] at hsg
          obtain ⟨⟨hs1,_⟩,hs2⟩:=hsg
          have hbb:b=bv:=by
           cases b <;> cases bv <;> first | rfl | (exfalso; simp only [Bool.false_eq_true,if_false,if_true] at hs2 hyt; rw [hyt] at hs2; simp [isTmp] at hs2)
          unfold Region.wanted
          rw [hg]
          dsimp only
          rw [yielded_at hs1 hbv,hbb]
          simp
      | _=>simp [pickB] at hsg
    rw [hop] at h2
    have exec : ∀ bv,a.eval x = .bool bv→(execOp a.eval o).run c.P w = .ok (.value (a.eval (if bv then y else z))) w:=by
     intro bv hbv
     cases bv <;> simp [execOp,hop,hbv,asBool]
    unfold absG at h2
    dsimp only at h2
    split at h2
    ·rename_i hb
     cases h2
     rw [hb] at hx
     exact wp_of_value (exec true hx) (go _ w σ (Gx.of1 (Go1.refl _ _)) inv.wt (fun _=>arm true hx) rfl)
    ·rename_i hb
     cases h2
     rw [hb] at hx
     exact wp_of_value (exec false hx) (go _ w σ (Gx.of1 (Go1.refl _ _)) inv.wt (fun _=>arm false hx) rfl)
    ·rename_i hb
     cases h2
     rw [hb] at hx
     obtain ⟨bv,hbv⟩:=hx
     refine wp_of_value (exec bv hbv) (go _ w σ (Gx.of1 (Go1.refl _ _)) inv.wt (fun _ => ?_) rfl)
     have:=arm bv hbv
     cases bv
     · exact join_r this
     · exact join_l this
    ·rename_i t hb
     rw [hb] at hx
     split at h2
     ·rename_i u v hu hv
      split at h2
      ·rename_i ow how
       cases h2
       have hp:=hc.pick (by rw [how]; simp)
       have hr:σ.rho=c.gt.rho:=inv.wt.rho
       obtain ⟨hx1,bv,hbv⟩:=hx
       refine wp_of_value (exec bv hbv) (go _ w σ (Gx.of1 (Go1.refl _ _)) inv.wt (fun _ => ?_) rfl)
       have:=arm bv hbv
       have h0:(c.gt.rho t)[0]? = some (.bool bv):=by rw [← hr,hx1,hbv]
       have k:VT σ (a.eval (if bv then y else z)) (.bt (if bv then u else v)):=by
        cases bv with
        | true=>exact tmB_ok hp hr hu this
        | false=>exact tmB_ok hp hr hv this
       obtain ⟨k1,b',k2⟩:=k
       refine ⟨?_,b',k2⟩
       rw [k2] at k1 ⊢
       rw [hr] at k1 ⊢
       exact hp.2 t u v bv b' h0 k1
      · cases h2
     · cases h2
    · cases h2
   ·have h2':absC c Γj o.op=some τ:=by
     unfold absG at h2
     split at h2
     ·rename_i x y z hop
      exact absurd ⟨x,y,z,hop⟩ hp
     · exact h2
    exact op_ok hc inv.wt o (Γ:=Γj) (tys fun x y z e=>hp ⟨x,y,z,e⟩) h2' (fun v σ' w' g1 g2 g3=>go v w' σ' (Gx.of1 g1) g2 (fun _=>g3) g1.pv)
theorem draw_ok {c:Ctx} (hc:c.Ok) {Q:Exit→Act→World→Prop} {id:Nat} {l:List Oper} {Γ Γe:Env} {σ:S} {a:Act} {w:World} (h:drawT c l Γ=some Γe) (hw:WT c.gt σ w) (ht:Typed σ a Γ)
 (hQ : ∀ σ' a' w',Gx c σ σ' w w'→WT c.gt σ' w'→Typed σ' a' Γe→Q .normal a' w'):(Code.region id l.toArray true).wp c.P Q a w:=by
 unfold drawT at h
 split at h
 ·rename_i hb0
  have hb:Ord l Γ.length:=by
   have:=orderB_ok hb0.1
   exact ⟨this.guard,this.edge,fun j d hd=>Nat.lt_of_lt_of_le (this.dlt j d hd) hb0.2,this.dne,this.look⟩
  split at h
  case h_2=>cases h
  rename_i τs es Γ' hs
  split at h
  case isFalse=>cases h
  rename_i hoe
  cases h
  refine wp_region_any hc.order ?_
  have hsz:l.toArray.size=l.length:=by simp
  have hcnt : ∀ k,k≤l.length→Rc.cnt (Array.replicate l.toArray.size false) k=k:=by
   intro k
   induction k with
   | zero=>intro _; rfl
   | succ k ih=>intro hk; unfold Rc.cnt; rw [getD_replicate_false,ih (by omega)]; simp
  have:=any_ok hc (Q:=Q) hs hb (orderE_ok hoe) (σ0:=σ) (w0:=w) ht.rw hQ l.length (Array.replicate l.toArray.size false) a w.drew σ
   ⟨(Gx.of1 (Go1.refl σ w)).drew,(funext fun q=>(cur_skip (m:=0) l.length (Nat.zero_le _) (fun i _ _ _=>getD_replicate_false ..)).symm),hw.drew,ht.1,ht.2.1,⟨by simp,fun j oj _ hl=>(by rw [getD_replicate_false] at hl; cases hl),fun t h1 h2=>(by simp at h2; omega)⟩,
     fun j t τ _ hl=>(by rw [getD_replicate_false] at hl; cases hl),fun t τ _ hΓ=>ht.2.2.1 t τ hΓ⟩ (hcnt _ (Nat.le_refl _))
  rw [hsz]
  exact this
 · cases h
end Ab
end Go.Proofs.YtfodadedkilgdaaGreatDoor

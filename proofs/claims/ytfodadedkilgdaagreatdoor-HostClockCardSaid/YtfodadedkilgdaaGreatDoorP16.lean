/- A part of the proof. Plain; no condition. -/
import Derived.Test.YtfodadedkilgdaaGreatDoorP15
import Derived.Test.YtfodadedkilgdaaGreatDoorP3
namespace Go.Proofs.YtfodadedkilgdaaGreatDoor
set_option linter.unusedVariables false
set_option linter.unusedSimpArgs false
open Go.RowKit
namespace Ab
set_option warn.classDefReducibility false
attribute [local instance 100000] decEqI decLeI decLtI
def Yl (c:Ctx) (σ:S) (w:World) (s:Sem Value) (τ:T):Prop := ∃ v w',s.run c.P w = .ok v w'∧Ans c.gt σ w v w' τ
theorem Ans.stay {gt:Gt} {σ:S} {w:World} {v:Value} {τ:T} (hw:WT gt σ w) (h:VT σ v τ):Ans gt σ w v w τ:=⟨σ,Go1.refl _ _,hw,h⟩
theorem CT.put {σ:S} {C D:List Value} {l ks:List K} {o:Nat} (hC:CT σ C l) (hD:CT σ D ks) (h:o+ks.length≤l.length) :
 CT σ (C.take o++D++C.drop (o+D.length)) (l.take o++ks++l.drop (o+ks.length)):=by
 have hl:=hC.1
 have hd:=hD.1
 refine ⟨by simp [hl,hd],fun i κ hi => ?_⟩
 rw [List.append_assoc,List.getElem?_append] at hi ⊢
 simp only [List.length_take,List.length_append] at hi ⊢
 have e1:min o l.length=o:=by omega
 have e2:min o C.length=o:=by omega
 rw [e1] at hi
 rw [e2]
 split at hi
 ·rename_i hlt
  rw [if_pos hlt]
  rw [List.getElem?_take,if_pos hlt] at hi ⊢
  exact hC.2 _ _ hi
 ·rename_i hge
  rw [if_neg hge]
  rw [List.getElem?_append] at hi ⊢
  rw [hd]
  split at hi
  ·rename_i hlt
   rw [if_pos hlt]
   exact hD.2 _ _ hi
  ·rename_i hge2
   rw [if_neg hge2]
   rw [List.getElem?_drop] at hi ⊢
   exact hC.2 _ _ hi
def kb0 (κ κ':K):Bool :=
 decide (κ=κ') || decide (κ' = .any) || (match κ,κ' with
  | .ci k n,.int k'=>decide (k=k') && (ile (klo k) n && ile n (khi k))
  | .cb _,.bool=>true
  | .nl,.sl _=>true
  | .nl,.ow _ _=>true
  | .ow n h,.ow n' h'=>n==n' && Nat.ble h h'
  | .ow n h,.sl m=>n==m && Nat.ble h 1000000
  | _,_=>false)
def kb (κ κ':K):Bool:=nw κ && kb0 κ κ'
theorem kb_nw {κ κ':K} (h:kb κ κ'=true):nw κ'=true:=by
 cases κ' <;> first | rfl | skip
 exfalso
 cases κ <;> simp [kb,kb0,nw] at h
theorem OW.sl {σ:S} {v:Value} {n lo hi:Nat} (h:OW σ v (List.replicate n (.int .u8)) lo hi) (hh:hi≤1000000):SL σ v n:=by
 rcases h with ⟨rfl,_⟩ | ⟨b,len,cap,l,rfl,h1,h2,h3,h4,hb,h5,h6⟩
 · exact SL_nil σ n
 ·refine ⟨_,len,cap,rfl,h3,h4,by omega,(fun h=>nomatch h),fun p hp => ?_⟩
  cases hp
  refine ⟨rfl,true,l,hb,fun i hi => ?_⟩
  dsimp only
  rw [Nat.zero_add]
  rw [List.length_replicate] at h6
  have hn:0<n:=Nat.pos_of_ne_zero (fun e=>by subst e; simp at hi)
  have e1:i / n*n+i%n=i:=Nat.div_add_mod' i n
  have h7:=h6 (i / n) (i%n) (.int .u8) (by
   have:=(Nat.div_lt_iff_lt_mul hn).2 hi
   omega) (by rw [List.getElem?_replicate,if_pos (Nat.mod_lt _ hn)])
  rwa [e1] at h7
theorem kb_ok {σ:S} {v:Value} {κ κ':K} (h:kb κ κ'=true) (hv:KT σ v κ):KT σ v κ':=by
 unfold kb at h
 rw [Bool.and_eq_true] at h
 obtain ⟨hn,h⟩:=h
 unfold kb0 at h
 simp only [Bool.or_eq_true,decide_eq_true_eq] at h
 rcases h with (rfl | rfl) | h
 · exact hv
 · exact hv.one hn
 ·split at h
  ·simp only [Bool.and_eq_true,decide_eq_true_eq,ile_iff] at h
   obtain ⟨rfl,h1,h2⟩:=h
   exact ⟨_,hv,h1,h2⟩
  · exact ⟨_,hv⟩
  · obtain rfl:v=_:=hv; exact SL_nil σ _
  · obtain rfl:v=_:=hv; exact .inl ⟨rfl,rfl⟩
  ·rename_i n hh n' hh'
   rw [Bool.and_eq_true,beq_iff_eq,Nat.ble_eq] at h
   obtain ⟨rfl,h⟩:=h
   exact OW.wide hv (Nat.le_refl _) h
  ·rename_i n hh m
   rw [Bool.and_eq_true,beq_iff_eq,Nat.ble_eq] at h
   obtain ⟨rfl,h⟩:=h
   exact OW.sl hv h
  · cases h
def kle (l l':List K):Bool:=l.length==l'.length && (l.zip l').all fun x=>kb x.1 x.2
theorem kle_ok {σ:S} {C:List Value} {l l':List K} (h:kle l l'=true) (hC:CT σ C l):CT σ C l':=by
 unfold kle at h
 rw [Bool.and_eq_true,beq_iff_eq,List.all_eq_true] at h
 refine ⟨hC.1.trans h.1,fun i κ hi => ?_⟩
 have hlt:i<l'.length:=(List.getElem?_eq_some_iff.1 hi).1
 have hl:l[i]? = some (l[i]'(by omega)):=List.getElem?_eq_getElem _
 obtain ⟨v,h1,h2⟩:=hC.2 i _ hl
 have hz:(l[i]'(by omega),κ)∈l.zip l':=List.mem_iff_getElem?.2 ⟨i,by rw [List.getElem?_zip_eq_some]; exact ⟨hl,hi⟩⟩
 exact ⟨v,h1,kb_ok (h.2 _ hz) h2⟩
theorem kle_pl {l l':List K} (h:kle l l'=true) (hp:l.all pK=true):l'.all pK=true:=by
 unfold kle at h
 rw [Bool.and_eq_true,beq_iff_eq] at h
 rw [List.all_eq_true]
 intro κ hκ
 obtain ⟨i,hi,rfl⟩:=List.mem_iff_getElem.1 hκ
 have hi':i<l.length:=by omega
 have hm:(l[i],l'[i])∈l.zip l':=List.mem_iff_getElem.2 ⟨i,by simp; omega,by simp⟩
 have h1:=List.all_eq_true.1 h.2 _ hm
 have h2:=List.all_eq_true.1 hp _ (List.getElem_mem hi')
 revert h1 h2
 generalize l[i]=a
 generalize l'[i]=b
 intro h1 h2
 cases b with
 | os j o n=>cases a <;> simp [kb,kb0,pK] at h1 h2
 | _=>rfl
theorem kle_nw {l l':List K} (h:kle l l'=true) : ∀ κ∈l',nw κ=true:=by
 intro κ hκ
 unfold kle at h
 rw [Bool.and_eq_true,beq_iff_eq,List.all_eq_true] at h
 obtain ⟨i,hi,rfl⟩:=List.mem_iff_getElem.1 hκ
 have hz:(l[i]'(by omega),l'[i])∈l.zip l':=List.mem_iff_getElem?.2 ⟨i,by rw [List.getElem?_zip_eq_some]; exact ⟨List.getElem?_eq_getElem _,List.getElem?_eq_getElem _⟩⟩
 exact kb_nw (h.2 _ hz)
inductive All2 {α β:Type} (R:α→β→Prop):List α→List β→Prop
 | nil:All2 R [] []
 | cons {x:α} {y:β} {xs:List α} {ys:List β}:R x y→All2 R xs ys→All2 R (x::xs) (y::ys)
theorem fold_set (o:Nat) : ∀ (vs:List Value) (k:Nat) (cs:Array Value),o+k+vs.length≤cs.size →
 ((vs.zipIdx k).foldl (fun cs x=>cs.setIfInBounds (o+x.2) x.1) cs).toList=cs.toList.take (o+k)++vs++cs.toList.drop (o+k+vs.length)
 | [],k,cs,_=>by simp
 | v::vs,k,cs,h=>by
   rw [List.zipIdx_cons,List.foldl_cons,fold_set o vs (k+1) _ (by simp at h ⊢; omega)]
   simp only [List.length_cons] at h
   have hlt:o+k<cs.toList.length:=by simp; omega
   rw [Array.toList_setIfInBounds]
   apply List.ext_getElem?
   intro i
   simp only [List.getElem?_append,List.length_take,List.length_set,Array.length_toList,List.getElem?_take,List.getElem?_set,List.getElem?_drop,List.length_append,List.length_cons]
   have m1:min (o+(k+1)) cs.size=o+k+1:=by omega
   have m2:min (o+k) cs.size=o+k:=by omega
   rw [m1,m2]
   by_cases h1:i<o+k
   · rw [if_pos (by omega),if_pos (by omega),if_pos (by omega),if_neg (by omega),if_pos (by omega),if_pos h1,if_pos h1]
   ·by_cases h2:i=o+k
    ·subst h2
     rw [if_pos (by omega),if_pos (by omega),if_pos (by omega),if_pos rfl,if_pos (by simpa using hlt),if_pos (by omega),if_neg (by omega),Nat.sub_self]
     rfl
    ·by_cases h3:i<o+k+1+vs.length
     · rw [if_pos (by omega),if_neg (by omega),if_pos (by omega),if_neg (by omega),show i-(o+k)=(i-(o+k+1))+1 by omega,List.getElem?_cons_succ]
     ·rw [if_neg (by omega),if_neg (by omega),if_neg (by omega)]
      congr 1
      omega
def fillK (place:Nat→Option (Nat×Nat)) (l:List K):List (Nat×List K)→Option (List K)
 | []=>some l
 | (i,ks)::rest =>
   match place i with
   | none=>none
   | some (off,size)=>if ks.length=size∧off+ks.length≤l.length then fillK place (l.take off++ks++l.drop (off+ks.length)) rest else none
theorem fill_ok {σ:S} (place:Nat→Option (Nat×Nat)) : ∀ (ps:List (Nat×Value)) (qs:List (Nat×List K)) (C:Array Value) (l l':List K),CT σ C.toList l→fillK place l qs=some l' →
 All2 (fun (p:Nat×Value) (q:Nat×List K)=>p.1=q.1∧CT σ p.2.cells.toList q.2) ps qs → ∃ C':Array Value,Instr.fill place C ps=some C'∧CT σ C'.toList l'
 | [],[],C,l,l',hC,h,_=>by cases h; exact ⟨C,rfl,hC⟩
 | (i,v)::ps,(j,ks)::qs,C,l,l',hC,h,hp=>by
   cases hp with
   | cons hh ht =>
     obtain ⟨rfl,hv⟩:=hh
     unfold fillK at h
     unfold Instr.fill
     cases hpl:place i with
     | none=>simp [hpl] at h
     | some os =>
       obtain ⟨off,size⟩:=os
       simp only [hpl] at h ⊢
       split at h
       ·rename_i hc
        have h1:=hv.1
        have h2:=hC.1
        simp only [Array.length_toList] at h1 h2
        rw [if_neg (by simp; omega)]
        refine fill_ok place ps qs _ _ _ ?_ h ht
        have he:(v.cells.zipIdx.foldl (fun cs x=>cs.setIfInBounds (off+x.2) x.1) C)=((v.cells.toList.zipIdx 0).foldl (fun cs x=>cs.setIfInBounds (off+x.2) x.1) C):=by
         rw [← Array.foldl_toList,Array.toList_zipIdx]
        have hf:=fold_set off v.cells.toList 0 C (by simp; omega)
        show CT σ (v.cells.zipIdx.foldl (fun cs x=>cs.setIfInBounds (off+x.2) x.1) C).toList _
        rw [he,hf,Nat.add_zero]
        exact hC.put hv hc.2
       · cases h
 | [],_::_,_,_,_,_,_,hp=>nomatch hp
 | _::_,[],_,_,_,_,_,hp=>nomatch hp
def Ctx.knd (c:Ctx) (τ:T):Option (List K):=match c.own with
 | some _=>kndX τ
 | none=>Ab.knd τ
theorem Ctx.knd_ok (c:Ctx) {σ:S} {v:Value} {τ:T} {l:List K} (hv:VT σ v τ) (h:c.knd τ=some l):CT σ v.cells.toList l:=by
 unfold Ctx.knd at h
 split at h
 · exact kndX_ok hv h
 · exact Ab.knd_ok hv h
def Ctx.zero (c:Ctx) (i:TI):List K:=match c.own with
 | some _=>i.zero.map exz
 | none=>i.zero
noncomputable def partsK (c:Ctx) (Γ:Env):List (Nat×Operand)→Option (List (Nat×List K))
 | []=>some []
 | (i,x)::r=>match c.knd (ty c.gt Γ x),partsK c Γ r with
   | some ks,some q=>some ((i,ks)::q)
   | _,_=>none
theorem partsK_ok {c:Ctx} {σ:S} {a:Act} {Γ:Env} : ∀ (ps:List (Nat×Operand)) (qs:List (Nat×List K)),(∀ p∈ps,VT σ (a.eval p.2) (ty c.gt Γ p.2))→partsK c Γ ps=some qs →
 All2 (fun (p:Nat×Value) (q:Nat×List K)=>p.1=q.1∧CT σ p.2.cells.toList q.2) (ps.map fun x=>(x.1,a.eval x.2)) qs
 | [],qs,_,h=>by cases h; exact .nil
 | (i,x)::r,qs,hx,h=>by
   unfold partsK at h
   split at h
   ·rename_i ks q h1 h2
    cases h
    exact .cons ⟨rfl,c.knd_ok (hx (i,x) (List.mem_cons_self ..)) h1⟩ (partsK_ok r q (fun p hp=>hx p (List.mem_cons_of_mem _ hp)) h2)
   · cases h
def seg (l:List K) (o n:Nat):List K:=(l.drop o).take n
def bsK (i:TI) (es n:Nat) (qs:List (Nat×List K)):Option T :=
 if n=0∧0<es∧qs.length=0 then some (.ow i.slz 0 0) else
 if n*es≤100000∧0<es∧0<n then
  match fillK (fun j=>some (j*es,es)) (List.replicate n i.slz).flatten qs with
  | some l=>if l.all pK=false then none else if es=1∧kle l (List.replicate l.length (.sl 1))=true then some (.ow [.sl 1] n n) else if n=1 then some (.ow l 1 1) else
    if es=1∧l=List.replicate l.length (l.headD .any) then some (.ow [l.headD .any] n n) else
    if 1<es∧l=(List.replicate n (l.take es)).flatten then some (.ow (l.take es) n n) else none
  | none=>none
 else none
theorem fillK_length {es:Nat} : ∀ (qs:List (Nat×List K)) (l0 l:List K),fillK (fun j=>some (j*es,es)) l0 qs=some l→l.length=l0.length
 | [],l0,l,h=>by cases h; rfl
 | (j,ks)::qs,l0,l,h=>by
   simp only [fillK] at h
   split at h
   ·rename_i hh
    rw [fillK_length qs _ _ h]
    simp
    omega
   · cases h
noncomputable def bnd (c:Ctx) (Γ:Env) (x:Option Operand) (d:Nat):Option Nat :=
 match x with
 | none=>some d
 | some x=>match ty c.gt Γ x with
   | .int _ lo hi=>if lo=hi∧0≤lo then some lo.toNat else none
   | _=>none
def sliceK (m:Bool) (l:List K) (n:Nat):Option T :=
 match l with
 | []=>if n=0 then some (.ss m .any 0 0) else none
 | κ::r=>if l=List.replicate n κ∧r.length+1=n then some (.ss m κ n n) else none
noncomputable def aPick (c:Ctx) (Γ:Env) (x y z:Operand):Option T :=
 match ty c.gt Γ x with
  | .cb true=>some (ty c.gt Γ y)
  | .cb false=>some (ty c.gt Γ z)
  | _=>none
noncomputable def aBuild (c:Ctx) (Γ:Env) (t:TypeId) (ps:Array (Nat×Operand)):Option T :=
 match c.t t,partsK c Γ ps.toList with
  | some i,some qs=>match i.arr,i.flds with
    | some (_,es,_),_=>(fillK (fun j=>some (j*es,es)) (c.zero i) qs).map .agg
    | none,some L=>(fillK (L.toArray[·]?) (c.zero i) qs).map .agg
    | _,_=>none
  | _,_=>none
def aLoadP (i:TI) (l:List K) (off:Nat):Option T:=if i.row then (if off+i.size≤l.length then some (.agg (seg l off i.size)) else none) else (l[off]?).map ofK
def aLoadK (i:TI) (κ:K) (n:Nat):Option T:=if i.row then (if i.size≤n then some (.agg (List.replicate i.size κ)) else none) else if 1≤n then some (ofK κ) else none
def aLoadR (i:TI) (ks:List K):Option T:=if i.row then (if i.size≤ks.length then some (.agg (ks.take i.size)) else none) else (ks[0]?).map ofK
noncomputable def aLoad (c:Ctx) (Γ:Env) (t:TypeId) (x:Operand):Option T :=
 match c.t t with
  | some i=>match ty c.gt Γ x with
    | .ptr _ l off=>aLoadP i l off
    | .pk _ κ n=>aLoadK i κ n
    | .pr _ ks=>aLoadR i ks
    | _=>none
  | none=>none
noncomputable def aField (c:Ctx) (Γ:Env) (t:TypeId) (x:Operand) (f:Nat):Option T :=
 match c.t t,ty c.gt Γ x with
  | some i,.ptr m l off=>match i.flds with
    | some L=>match L[f]? with
      | some (o,sz)=>if sz=0 then none else some (.ptr m l (off+o))
      | none=>none
    | none=>none
  | _,_=>none
def aIdxP (i:TI) (m:Bool) (l:List K) (off:Nat) (lo hi:Int):Option T :=
 match i.arr with
  | some (n,es,_)=>if lo=hi∧0≤lo∧lo<n then some (.ptr m l (off+lo.toNat*es)) else none
  | none=>none
def aIdxS (i:TI) (m:Bool) (κ:K) (a:Nat) (lo hi:Int):Option T:=if i.sl=some 1∧0≤lo∧hi<a then some (.pk m κ 1) else none
def aIdxO (i:TI) (κs:List K) (a:Nat) (lo hi:Int):Option T :=
 match κs with
  | [κ]=>aIdxS i true κ a lo hi
  | κs=>if i.sl=some κs.length∧0≤lo∧hi<a then some (.pr true κs) else none
noncomputable def aIdxA (c:Ctx) (Γ:Env) (t:TypeId) (x y:Operand):Option T :=
 match c.t t with
  | some i=>match ty c.gt Γ y with
    | .int _ lo hi=>match ty c.gt Γ x with
      | .ptr m l off=>aIdxP i m l off lo hi
      | .ss m κ a _=>aIdxS i m κ a lo hi
      | .ow κs a _=>aIdxO i κs a lo hi
      | _=>none
    | _=>none
  | none=>none
noncomputable def aNil (c:Ctx) (Γ:Env) (x:Operand):Option T :=
 match ty c.gt Γ x with
  | .ptr m l off=>some (.ptr m l off)
  | .pk m κ n=>some (.pk m κ n)
  | .pr m ks=>some (.pr m ks)
  | _=>none
noncomputable def aSlice (c:Ctx) (Γ:Env) (t:TypeId) (x:Operand) (lw hg:Option Operand):Option T :=
 match c.t t,ty c.gt Γ x with
  | some i,.ptr m l off=>match i.arr with
    | some (n,es,false)=>match bnd c Γ lw 0,bnd c Γ hg n with
      | some lo,some hi=>if es=1∧lo≤hi∧hi≤n∧n≤1000000 then sliceK m (seg l (off+lo) (hi-lo)) (hi-lo) else none
      | _,_=>none
    | _=>none
  | _,_=>none
noncomputable def aArr (c:Ctx) (Γ:Env) (t:TypeId) (x:Operand):Option T :=
 match c.t t,ty c.gt Γ x with
  | some i,.ss m κ a _=>match i.arr with
    | some (n,1,false)=>if 0<n∧n≤a then some (.pk m κ n) else none
    | _=>none
  | _,_=>none
noncomputable def aMake (c:Ctx) (Γ:Env) (t:TypeId) (x y:Operand):Option T :=
 match c.t t,ty c.gt Γ x,ty c.gt Γ y with
  | some i,.int _ a b,.int _ a' b'=>match i.slz with
    | [κ]=>if i.sl=some 1∧a=b∧a'=b'∧a=a'∧0≤a∧a≤100000 then some (.ow [κ] a.toNat a.toNat) else none
    | _=>none
  | _,_,_=>none
noncomputable def aBuildS (c:Ctx) (Γ:Env) (t:TypeId) (n:Nat) (ps:Array (Nat×Operand)):Option T :=
 match c.t t,partsK c Γ ps.toList with
  | some i,some qs=>match i.sl with
    | some es=>bsK i es n qs
    | none=>none
  | _,_=>none
noncomputable def aIndex (c:Ctx) (Γ:Env) (t:TypeId) (x y:Operand):Option T :=
 match c.t t with
  | some i=>match ty c.gt Γ x with
    | .agg l=>match ty c.gt Γ y with
      | .int _ lo hi=>match i.arr with
        | some (n,es,r)=>if lo=hi∧0≤lo∧lo<n then (if r then some (.agg (seg l (lo.toNat*es) es)) else (l[lo.toNat*es]?).map ofK) else none
        | none=>none
      | _=>none
    | _=>none
  | none=>none
def aUn (op:UnOp) (x:T):Option T :=
 match op with
  | .neg=>match x with
    | .int k a b=>some (if a=b then cst k (0-a) else full k)
    | _=>none
  | .xor=>match x with
    | .int k _ _=>some (full k)
    | _=>none
  | .not=>match x with
    | .cb b=>some (.cb !b)
    | .bool=>some .bool
    | _=>none
  | _=>none
def aConvS (i0 i:TI) (κ:K):Option T:=if i.str=true∧i0.sl=some 1∧i0.u8=true∧κ = .int .u8 then some .str else none
noncomputable def aConv (c:Ctx) (Γ:Env) (t t':TypeId) (x:Operand):Option T :=
 match c.t t with
  | some i0=>match c.t t' with
    | some i=>match ty c.gt Γ x with
      | .int _ a b=>i.int.map fun k=>if klo k≤a∧b≤khi k then .int k a b else full k
      | .sl n=>if n=1 then aConvS i0 i (.int .u8) else none
      | .ss _ κ _ _=>aConvS i0 i κ
      | .ow κs _ _=>match κs with
        | [κ]=>aConvS i0 i κ
        | _=>none
      | _=>none
    | none=>none
  | none=>none
def aExtract (x:T) (n:Nat):Option T :=
 match x with
  | .t2 a b=>match n with
    | 0=>some a
    | 1=>some b
    | _=>none
  | .t3 a b d=>match n with
    | 0=>some a
    | 1=>some b
    | 2=>some d
    | _=>none
  | _=>none
noncomputable def absOp (c:Ctx) (Γ:Env) (o:Op):Option T :=
 match o with
 | .move x | .assign x=>some (ty c.gt Γ x)
 | .pick x y z=>aPick c Γ x y z
 | .alloc t=>(c.t t).map fun i => .ptr true i.zero 0
 | .box _ x=>(knd (ty c.gt Γ x)).map fun l => .ptr true l 0
 | .build t ps=>aBuild c Γ t ps
 | .load t x=>aLoad c Γ t x
 | .fieldAddr t x f=>aField c Γ t x f
 | .indexAddr t x y=>aIdxA c Γ t x y
 | .nilCheck x=>aNil c Γ x
 | .slice t x lw hg none=>aSlice c Γ t x lw hg
 | .sliceToArrayPointer t x=>aArr c Γ t x
 | .makeSlice t x y=>aMake c Γ t x y
 | .buildSlice t n ps=>aBuildS c Γ t n ps
 | .index t x y=>aIndex c Γ t x y
 | .binOp op t x y _=>absBin c op t (ty c.gt Γ x) (ty c.gt Γ y)
 | .unOp op _ x=>aUn op (ty c.gt Γ x)
 | .convert t t' x=>aConv c Γ t t' x
 | .extract x n=>aExtract (ty c.gt Γ x) n
 | _=>none
theorem al_add (b o j:Nat):(⟨b,o,none⟩:Addr).add j=⟨b,o+j,none⟩:=Mem.addr_add b o j
section
variable {c:Ctx} {σ:S} {w:World} {a:Act} {Γ:Env}
theorem box_ok (hw:WT c.gt σ w) (t:TypeId) {v:Value} {l:List K} (h:CT σ v.cells.toList l) (hp:l.all pK=true):Yl c σ w (Instr.box t v) (.ptr true l 0):=by
 obtain ⟨h1,h2⟩:=Go1.alloc hw v.cells t l h hp
 refine ⟨.pointer (some ⟨w.heap.size,0,none⟩),_,?_,more σ w.heap.size l,h1,h2,w.heap.size,true,rfl,if_pos rfl,fun _=>rfl⟩
 simp [Instr.box,newVar,newRow]
theorem load_row (hc:c.Ok) {t:TypeId} {i:TI} (hi:c.t t=some i) {b:Nat} {C:Array Value} {t':TypeId} {f:Nat×Nat} {l:List K} {off:Nat} (hh:w.heap[b]? = some (.cells C t' f)) (hC:CT σ C.toList l) {τ:T}
 (h:aLoadP i l off=some τ) : ∃ v,(Instr.loadAt t (.pointer (some ⟨b,off,none⟩))).run c.P w = .ok v w∧VT σ v τ:=by
 obtain ⟨it,z,d,hit,hsz,_,_,hu,hr⟩:=(hc.t hi).info
 unfold aLoadP at h
 split at h
 ·rename_i hrow
  split at h
  ·rename_i hle
   cases h
   have hs:=hC.seg off i.size
   have hl:((C.toList.drop off).take i.size).length=i.size:=by have:=hC.1; simp at this ⊢; omega
   have hrun:=run_loadAt_mid (P:=c.P) w b off t ((C.toList.drop off).take i.size) d (fun j u hj=>by
    rw [cell_of_row w b _ _ _ _ hh]
    rw [List.getElem?_take] at hj
    split at hj
    ·rw [List.getElem?_drop] at hj
     simpa using hj
    · cases hj) hu (hr.trans hrow) (by rw [hit]; simp [hsz,hl])
   exact ⟨_,hrun,_,rfl,hs⟩
  · cases h
 ·rename_i hrow
  cases hl:l[off]? with
  | none=>simp [hl] at h
  | some κ =>
    simp only [hl,Option.map_some,Option.some.injEq] at h
    subst h
    obtain ⟨u,hu1,hu2⟩:=hC.2 off κ hl
    have hcell:w.cell? ⟨b,off,none⟩=some u:=by rw [cell_of_row w b _ _ _ _ hh]; simpa using hu1
    refine ⟨u,?_,ofK_ok hu2⟩
    have hd:d.isRow=false:=by rw [hr]; simpa using hrow
    cases d <;> first | (simp at hd; done) | simp [Instr.loadAt,Instr.sureAddr,loadVar,isAgg,run_underlying hu,hcell]
theorem loadP_app {i:TI} {l:List K} {off:Nat} {τ:T} (m:List K) (h:aLoadP i l off=some τ):aLoadP i (l++m) off=some τ:=by
 unfold aLoadP at h ⊢
 split at h
 ·rename_i hrow
  rw [if_pos hrow]
  split at h
  ·rename_i hle
   cases h
   rw [if_pos (by rw [List.length_append]; omega)]
   unfold seg
   rw [List.drop_append_of_le_length (by omega),List.take_append_of_le_length (by rw [List.length_drop]; omega)]
  · cases h
 ·rename_i hrow
  rw [if_neg hrow]
  cases hl:l[off]? with
  | none=>simp [hl] at h
  | some κ=>rw [hl] at h; rw [List.getElem?_append_left (List.getElem?_eq_some_iff.1 hl).1,hl]; exact h
theorem load_pre (hc:c.Ok) {t:TypeId} {i:TI} (hi:c.t t=some i) {b:Nat} {C:Array Value} {t':TypeId} {f:Nat×Nat} {l:List K} {off:Nat} (hh:w.heap[b]? = some (.cells C t' f)) (hC:CP σ C.toList l) {τ:T}
 (h:aLoadP i l off=some τ) : ∃ v,(Instr.loadAt t (.pointer (some ⟨b,off,none⟩))).run c.P w = .ok v w∧VT σ v τ:=by
 obtain ⟨r,hC⟩:=hC
 exact load_row hc hi hh hC (loadP_app _ h)
theorem load_ok (hc:c.Ok) (hw:WT c.gt σ w) {t:TypeId} {i:TI} (hi:c.t t=some i) {v:Value} {m:Bool} {l:List K} {off:Nat} (hv:VT σ v (.ptr m l off)) {τ:T}
 (h:(if i.row then (if off+i.size≤l.length then some (T.agg (seg l off i.size)) else none) else (l[off]?).map ofK)=some τ):Yl c σ w (Instr.loadAt t v) τ:=by
 obtain ⟨b,m',rfl,hb,_⟩:=hv
 obtain ⟨C,t',f,hh,_,hC⟩:=hw.blk b m' l hb
 obtain ⟨v,h1,h2⟩:=load_row hc hi hh hC h
 exact ⟨v,w,h1,.stay hw h2⟩
theorem store_row (hc:c.Ok) {t:TypeId} {i:TI} (hi:c.t t=some i) {b:Nat} {C:Array Value} {t':TypeId} {l ks:List K} {off:Nat} (hh:w.heap[b]? = some (.cells C t' (0,0))) (hC:CT σ C.toList l) {u:Value} (hu:CT σ u.cells.toList ks)
 (h1:ks.length=i.size) (h3:off+ks.length≤l.length) (hn : ∀ κ∈ks,nw κ=true) : ∃ C',(Instr.storeAt t (.pointer (some ⟨b,off,none⟩)) u).run c.P w = .ok () (w.setRow b C')∧CT σ C'.toList (l.take off++ks++l.drop (off+ks.length)):=by
 obtain ⟨it,z,d,hit,hsz,_,_,_,_⟩:=(hc.t hi).info
 have hl:=hC.1
 have hlu:=hu.1
 simp only [Array.length_toList] at hl hlu
 have hst:=run_storeCells_at c.P b off t' u.cells.toList 0 C w hh (by simp; omega) (hu.one hn)
 refine ⟨(C.toList.take off++u.cells.toList++C.toList.drop (off+u.cells.toList.length)).toArray,?_,by simpa using hC.put hu h3⟩
 simp only [Nat.add_zero] at hst
 simp only [Instr.storeAt,Instr.sureAddr,Sem.run_bind,Sem.run_pure,Result.andThen_ok,storeVar,sizeOf,run_typeInfo w hit]
 rw [if_neg (by rw [hsz]; simp; omega)]
 simpa using hst
theorem store_pre (hc:c.Ok) {t:TypeId} {i:TI} (hi:c.t t=some i) {b:Nat} {C:Array Value} {t':TypeId} {l ks:List K} {off:Nat} (hh:w.heap[b]? = some (.cells C t' (0,0))) (hC:CP σ C.toList l) {u:Value} (hu:CT σ u.cells.toList ks)
 (h1:ks.length=i.size) (h3:off+ks.length≤l.length) (hn : ∀ κ∈ks,nw κ=true) : ∃ C',(Instr.storeAt t (.pointer (some ⟨b,off,none⟩)) u).run c.P w = .ok () (w.setRow b C')∧CP σ C'.toList (l.take off++ks++l.drop (off+ks.length)):=by
 obtain ⟨r,hC⟩:=hC
 obtain ⟨C',k1,k2⟩:=store_row (off:=off) hc hi hh hC hu h1 (by rw [List.length_append]; omega) hn
 refine ⟨C',k1,r,?_⟩
 rw [List.take_append_of_le_length (by omega),List.drop_append_of_le_length h3,← List.append_assoc] at k2
 exact k2
theorem store_ok (hc:c.Ok) (hw:WT c.gt σ w) {t:TypeId} {i:TI} (hi:c.t t=some i) {v u:Value} {l ks:List K} {off:Nat} (hv:VT σ v (.ptr true l off)) (hu:CT σ u.cells.toList ks)
 (h1:ks.length=i.size) (h2:seg l off ks.length=ks) (h3:off+ks.length≤l.length) (hn : ∀ κ∈ks,nw κ=true) : ∃ w',(Instr.storeAt t v u).run c.P w = .ok () w'∧Go1 σ σ w w'∧WT c.gt σ w':=by
 obtain ⟨b,m',rfl,hb,hm⟩:=hv
 have hm':m'=true:=hm rfl
 subst hm'
 obtain ⟨C,t',f,hh,hf,hC⟩:=hw.blk b true l hb
 obtain rfl:f=(0,0):=hf rfl
 obtain ⟨C',k1,k2⟩:=store_row hc hi hh hC hu h1 h3 hn
 have e:l.take off++ks++l.drop (off+ks.length)=l:=by
  rw [← h2]
  unfold seg
  rw [List.length_take,List.length_drop,show min ks.length (l.length-off)=ks.length by omega,List.append_assoc,← List.drop_drop,List.take_append_drop,List.take_append_drop]
 rw [e] at k2
 obtain ⟨g1,g2⟩:=Go1.set hw hb C' k2
 exact ⟨_,k1,g1,g2⟩
theorem build_ok (hc:c.Ok) (hw:WT c.gt σ w) {t:TypeId} {i:TI} (hi:c.t t=some i) {ps:Array (Nat×Operand)} (hx : ∀ p∈ps.toList,VT σ (a.eval p.2) (ty c.gt Γ p.2)) {qs:List (Nat×List K)} (hq:partsK c Γ ps.toList=some qs) {τ:T}
 (h:(match i.arr,i.flds with
  | some (_,es,_),_=>(fillK (fun j=>some (j*es,es)) (c.zero i) qs).map T.agg
  | none,some L=>(fillK (L.toArray[·]?) (c.zero i) qs).map T.agg
  | _,_=>none)=some τ):Yl c σ w (Instr.build t (ps.map fun p=>(p.1,a.eval p.2))) τ:=by
 obtain ⟨it,z,d,hit,hsz,hz,hzk,hu,hr⟩:=(hc.t hi).info
 have hzk':CT σ z.cells.toList (c.zero i):=by
  unfold Ctx.zero
  split
  ·obtain ⟨it',z',e1,e2,e3⟩:=(hc.t hi).zx
   rw [hit] at e1
   cases e1
   rw [hz] at e2
   cases e2
   exact e3.mono (Le.nil _)
  · exact hzk.mono (Le.nil _)
 have hp:=partsK_ok _ _ hx hq
 have hpl:(ps.map fun p=>(p.1,a.eval p.2)).toList=ps.toList.map fun x=>(x.1,a.eval x.2):=by simp
 split at h
 ·rename_i n es r ha
  obtain ⟨e,ie,de,hua,hie,hes,_,_⟩:=(hc.t hi).arr n es r ha
  rw [Option.map_eq_some_iff] at h
  obtain ⟨l',hl',rfl⟩:=h
  obtain ⟨C',h1,h2⟩:=fill_ok _ _ _ _ _ _ hzk' hl' hp
  refine ⟨_,w,run_build w t _ C' ?_,.stay hw ⟨C',rfl,h2⟩⟩
  rw [hpl]
  simp only [Program.built,hit,hua,hz,hie,hes]
  exact h1
 ·rename_i L ha hL
  obtain ⟨fs,hus,hm⟩:=(hc.t hi).flds L hL
  rw [Option.map_eq_some_iff] at h
  obtain ⟨l',hl',rfl⟩:=h
  obtain ⟨C',h1,h2⟩:=fill_ok _ _ _ _ _ _ hzk' hl' hp
  refine ⟨_,w,run_build w t _ C' ?_,.stay hw ⟨C',rfl,h2⟩⟩
  rw [hpl]
  simp only [Program.built,hit,hus,hz,hm]
  exact h1
 · cases h
theorem field_run (hc:c.Ok) {t:TypeId} {i:TI} (hi:c.t t=some i) (b off:Nat) {L:List (Nat×Nat)} (hL:i.flds=some L)
 {f o sz:Nat} (hf:L[f]? = some (o,sz)) (hs:sz≠0):(Instr.fieldAt t (.pointer (some ⟨b,off,none⟩)) f).run c.P w = .ok (.pointer (some ⟨b,off+o,none⟩)) w:=by
 obtain ⟨fs,hus,hmm⟩:=(hc.t hi).flds L hL
 have key : ∀ (fl:List Field) (L:List (Nat×Nat)) (f:Nat),fl.mapM (fun f=>(c.P.info? f.type).map fun i=>(f.offset,i.size))=some L→L[f]? = some (o,sz) → ∃ fd ifd,fl[f]? = some fd∧c.P.info? fd.type=some ifd∧fd.offset=o∧ifd.size=sz:=by
  intro fl
  induction fl with
  | nil=>intro L f h1 h2; simp at h1; subst h1; simp at h2
  | cons g fl ih =>
    intro L f h1 h2
    simp only [List.mapM_cons,Option.bind_eq_bind,Option.pure_def] at h1
    cases hg:c.P.info? g.type with
    | none=>simp [hg] at h1
    | some ig =>
      cases hr:fl.mapM (fun f=>(c.P.info? f.type).map fun i=>(f.offset,i.size)) with
      | none=>simp [hg,hr] at h1
      | some rest =>
        simp [hg,hr] at h1
        subst h1
        cases f with
        | zero=>simp at h2; exact ⟨g,ig,rfl,hg,h2.1,h2.2⟩
        | succ f=>simpa using ih rest f hr (by simpa using h2)
 obtain ⟨fd,ifd,h1,h2,h3,h4⟩:=key _ _ _ hmm hf
 have h1':fs[f]? = some fd:=by simpa using h1
 simp [Instr.fieldAt,run_underlying hus,h1',Instr.sureAddr,fieldPlace,sizeOf,run_typeInfo w h2,h4,hs,h3,al_add]
theorem field_ok (hc:c.Ok) (hw:WT c.gt σ w) {t:TypeId} {i:TI} (hi:c.t t=some i) {v:Value} {m:Bool} {l:List K} {off:Nat} (hv:VT σ v (.ptr m l off)) {L:List (Nat×Nat)} (hL:i.flds=some L)
 {f o sz:Nat} (hf:L[f]? = some (o,sz)) (hs:sz≠0):Yl c σ w (Instr.fieldAt t v f) (.ptr m l (off+o)):=by
 obtain ⟨b,m',rfl,hb,hm⟩:=hv
 exact ⟨_,w,field_run hc hi b off hL hf hs,.stay hw ⟨b,m',rfl,hb,hm⟩⟩
theorem idx_run (hc:c.Ok) {t:TypeId} {i:TI} (hi:c.t t=some i) (b off:Nat) {n es:Nat} {r:Bool} (ha:i.arr=some (n,es,r))
 {k:IntKind} {j:Int} (h0:0≤j) (h1:j<n):(Instr.indexAt t (.pointer (some ⟨b,off,none⟩)) (.int k j)).run c.P w = .ok (.pointer (some ⟨b,off+j.toNat*es,none⟩)) w:=by
 obtain ⟨e,ie,de,hua,hie,hes,_,_⟩:=(hc.t hi).arr n es r ha
 simp [Instr.indexAt,run_underlying hua,Instr.sureAddr,asIntOf,h0,h1,sizeOf,run_typeInfo w hie,hes,al_add]
theorem idx_ok (hc:c.Ok) (hw:WT c.gt σ w) {t:TypeId} {i:TI} (hi:c.t t=some i) {v:Value} {m:Bool} {l:List K} {off:Nat} (hv:VT σ v (.ptr m l off)) {n es:Nat} {r:Bool} (ha:i.arr=some (n,es,r))
 {k:IntKind} {j:Int} (h0:0≤j) (h1:j<n):Yl c σ w (Instr.indexAt t v (.int k j)) (.ptr m l (off+j.toNat*es)):=by
 obtain ⟨b,m',rfl,hb,hm⟩:=hv
 exact ⟨_,w,idx_run hc hi b off ha h0 h1,.stay hw ⟨b,m',rfl,hb,hm⟩⟩
theorem index_ok (hc:c.Ok) (hw:WT c.gt σ w) {t:TypeId} {i:TI} (hi:c.t t=some i) {v:Value} {l:List K} (hv:VT σ v (.agg l)) {n es:Nat} {r:Bool} (ha:i.arr=some (n,es,r))
 {k:IntKind} {j:Int} (h0:0≤j) (h1:j<n) {τ:T} (h:(if r then some (T.agg (seg l (j.toNat*es) es)) else (l[j.toNat*es]?).map ofK)=some τ):Yl c σ w (Instr.index t v (.int k j)) τ:=by
 obtain ⟨C,rfl,hC⟩:=hv
 obtain ⟨e,ie,de,hua,hie,hes,hue,hre⟩:=(hc.t hi).arr n es r ha
 cases r with
 | true =>
   cases h
   have hs:=hC.seg (j.toNat*es) es
   refine ⟨.agg (C.extract (j.toNat*es) (j.toNat*es+es)),w,?_,.stay hw ⟨_,rfl,?_⟩⟩
   · cases de <;> first | (simp at hre; done) | simp [Instr.index,run_underlying hua,asIntOf,h0,h1,sizeOf,run_typeInfo w hie,hes,part,isAgg,run_underlying hue]
   ·have e2:(C.extract (j.toNat*es) (j.toNat*es+es)).toList=(C.toList.drop (j.toNat*es)).take es:=by
     rw [Array.toList_extract,List.extract_eq_take_drop]
     congr 1
     omega
    rw [e2]
    exact hs
 | false =>
   simp only [Bool.false_eq_true,if_false] at h
   rw [Option.map_eq_some_iff] at h
   obtain ⟨κ,hκ,rfl⟩:=h
   obtain ⟨u,hu1,hu2⟩:=hC.2 _ κ hκ
   have hu1':C[j.toNat*es]? = some u:=by simpa using hu1
   refine ⟨u,w,?_,.stay hw (ofK_ok hu2)⟩
   cases de <;> first | (simp at hre; done) | simp [Instr.index,run_underlying hua,asIntOf,h0,h1,sizeOf,run_typeInfo w hie,hes,part,isAgg,run_underlying hue,hu1']
theorem addr_plain {p:Addr} (h:p.spot=none) (n:Nat):p.add n=⟨p.block,p.off+n,none⟩:=by
 obtain ⟨b,o,s⟩:=p
 obtain rfl:s=none:=h
 exact al_add b o n
theorem pk_load (hc:c.Ok) (hw:WT c.gt σ w) {t:TypeId} {i:TI} (hi:c.t t=some i) {v:Value} {m:Bool} {κ:K} {n:Nat} (hv:VT σ v (.pk m κ n)) {τ:T}
 (h:(if i.row then (if i.size≤n then some (T.agg (List.replicate i.size κ)) else none) else if 1≤n then some (ofK κ) else none)=some τ):Yl c σ w (Instr.loadAt t v) τ:=by
 obtain ⟨p,m',l,rfl,hs,hb,hm,hk⟩:=hv
 obtain ⟨b,off,s⟩:=p
 obtain rfl:s=none:=hs
 dsimp only at hb hk
 obtain ⟨C,t',f,hh,_,hC⟩:=hw.blk b m' l hb
 obtain ⟨it,z,d,hit,hsz,_,_,hu,hr⟩:=(hc.t hi).info
 have cellAt : ∀ j,j<n → ∃ u,w.cell? ⟨b,off+j,none⟩=some u∧KT σ u κ∧C.toList[off+j]? = some u:=fun j hj=>by
  obtain ⟨u,hu1,hu2⟩:=hC.2 (off+j) κ (hk j hj)
  exact ⟨u,by rw [cell_of_row w b _ _ _ _ hh]; simpa using hu1,hu2,hu1⟩
 split at h
 ·rename_i hrow
  split at h
  ·rename_i hle
   cases h
   have hl:((C.toList.drop off).take i.size).length=i.size:=by
    rw [List.length_take,List.length_drop]
    rcases Nat.eq_zero_or_pos i.size with e | e
    · omega
    ·obtain ⟨u,_,_,h3⟩:=cellAt (i.size-1) (by omega)
     have:=(List.getElem?_eq_some_iff.1 h3).1
     omega
   have hrun:=run_loadAt_mid (P:=c.P) w b off t ((C.toList.drop off).take i.size) d (fun j u hj=>by
    rw [cell_of_row w b _ _ _ _ hh]
    rw [List.getElem?_take] at hj
    split at hj
    ·rw [List.getElem?_drop] at hj
     simpa using hj
    · cases hj) hu (hr.trans hrow) (by rw [hit]; simp [hsz,hl])
   refine ⟨_,w,hrun,.stay hw ⟨_,rfl,by simp [hl],fun j κ' hj => ?_⟩⟩
   rw [List.getElem?_replicate] at hj
   split at hj
   ·rename_i hjl
    cases hj
    obtain ⟨u,_,h2,h3⟩:=cellAt j (by omega)
    refine ⟨u,?_,h2⟩
    show ((C.toList.drop off).take i.size)[j]? = some u
    rw [List.getElem?_take,if_pos hjl,List.getElem?_drop]
    exact h3
   · cases hj
  · cases h
 ·rename_i hrow
  split at h
  ·rename_i hn
   cases h
   obtain ⟨u,h1,h2,_⟩:=cellAt 0 (by omega)
   refine ⟨u,w,?_,.stay hw (ofK_ok h2)⟩
   have hd:d.isRow=false:=by rw [hr]; simpa using hrow
   rw [Nat.add_zero] at h1
   cases d <;> first | (simp at hd; done) | simp [Instr.loadAt,Instr.sureAddr,loadVar,isAgg,run_underlying hu,h1]
  · cases h
theorem pr_load (hc:c.Ok) (hw:WT c.gt σ w) {t:TypeId} {i:TI} (hi:c.t t=some i) {v:Value} {m:Bool} {ks:List K} (hv:VT σ v (.pr m ks)) {τ:T}
 (h:(if i.row then (if i.size≤ks.length then some (T.agg (ks.take i.size)) else none) else (ks[0]?).map ofK)=some τ):Yl c σ w (Instr.loadAt t v) τ:=by
 obtain ⟨p,m',l,rfl,hs,hb,hm,hk⟩:=hv
 obtain ⟨b,off,s⟩:=p
 obtain rfl:s=none:=hs
 dsimp only at hb hk
 obtain ⟨C,t',f,hh,_,hC⟩:=hw.blk b m' l hb
 obtain ⟨it,z,d,hit,hsz,_,_,hu,hr⟩:=(hc.t hi).info
 have cellAt : ∀ j κ,ks[j]? = some κ → ∃ u,w.cell? ⟨b,off+j,none⟩=some u∧KT σ u κ∧C.toList[off+j]? = some u:=fun j κ hj=>by
  obtain ⟨u,hu1,hu2⟩:=hC.2 (off+j) κ (hk j κ hj)
  exact ⟨u,by rw [cell_of_row w b _ _ _ _ hh]; simpa using hu1,hu2,hu1⟩
 split at h
 ·rename_i hrow
  split at h
  ·rename_i hle
   cases h
   have hl:((C.toList.drop off).take i.size).length=i.size:=by
    rw [List.length_take,List.length_drop]
    rcases Nat.eq_zero_or_pos i.size with e | e
    · omega
    ·obtain ⟨u,_,_,h3⟩:=cellAt (i.size-1) _ (List.getElem?_eq_getElem (show i.size-1<ks.length by omega))
     have:=(List.getElem?_eq_some_iff.1 h3).1
     omega
   have hrun:=run_loadAt_mid (P:=c.P) w b off t ((C.toList.drop off).take i.size) d (fun j u hj=>by
    rw [cell_of_row w b _ _ _ _ hh]
    rw [List.getElem?_take] at hj
    split at hj
    ·rw [List.getElem?_drop] at hj
     simpa using hj
    · cases hj) hu (hr.trans hrow) (by rw [hit]; simp [hsz,hl])
   refine ⟨_,w,hrun,.stay hw ⟨_,rfl,by simp [hl]; omega,fun j κ' hj => ?_⟩⟩
   rw [List.getElem?_take] at hj
   split at hj
   ·rename_i hjl
    obtain ⟨u,_,h2,h3⟩:=cellAt j κ' hj
    refine ⟨u,?_,h2⟩
    show ((C.toList.drop off).take i.size)[j]? = some u
    rw [List.getElem?_take,if_pos hjl,List.getElem?_drop]
    exact h3
   · cases hj
  · cases h
 ·rename_i hrow
  cases hk0:ks[0]? with
  | none=>simp [hk0] at h
  | some κ =>
    simp only [hk0,Option.map_some,Option.some.injEq] at h
    subst h
    obtain ⟨u,h1,h2,_⟩:=cellAt 0 κ hk0
    refine ⟨u,w,?_,.stay hw (ofK_ok h2)⟩
    have hd:d.isRow=false:=by rw [hr]; simpa using hrow
    rw [Nat.add_zero] at h1
    cases d <;> first | (simp at hd; done) | simp [Instr.loadAt,Instr.sureAddr,loadVar,isAgg,run_underlying hu,h1]
theorem owidx_ok (hc:c.Ok) (hw:WT c.gt σ w) {t:TypeId} {i:TI} (hi:c.t t=some i) {κs:List K} (hsl:i.sl=some κs.length) {v:Value} {lo hi':Nat} (hv:OW σ v κs lo hi') {k:IntKind} {j:Int} (h0:0≤j) (h1:j<lo) :
 Yl c σ w (Instr.indexAt t v (.int k j)) (.pr true κs):=by
 obtain ⟨e,ie,z,hu,hie,hes,_⟩:=(hc.t hi).sl _ hsl
 rcases hv with ⟨rfl,rfl⟩ | ⟨b,len,cap,l,rfl,l1,l2,l3,l4,hb,l5,l6⟩
 · omega
 ·refine ⟨.pointer (some ((⟨b,0,none⟩:Addr).add (j.toNat*κs.length))),w,?_,.stay hw ⟨_,true,l,rfl,by rw [al_add],by rw [al_add]; exact hb,fun _=>rfl,fun i' κ hκ => ?_⟩⟩
  ·have h2:j<(len:Int):=by omega
   simp [Instr.indexAt,run_underlying hu,asIntOf,h0,h2,sizeOf,run_typeInfo w hie,hes]
  ·rw [al_add,Nat.zero_add]
   exact l6 j.toNat i' κ (by omega) hκ
theorem pk_store (hc:c.Ok) (hw:WT c.gt σ w) {t:TypeId} {i:TI} (hi:c.t t=some i) {v u:Value} {κ:K} {n:Nat} (hv:VT σ v (.pk true κ n)) (hu:CT σ u.cells.toList [κ]) (h1:i.size=1) (hn:1≤n) (hnw : ∀ x ∈ [κ],nw x=true) :
 ∃ w',(Instr.storeAt t v u).run c.P w = .ok () w'∧Go1 σ σ w w'∧WT c.gt σ w':=by
 obtain ⟨p,m',l,rfl,hs,hb,hm,hk⟩:=hv
 obtain ⟨b,off,s⟩:=p
 obtain rfl:s=none:=hs
 have hm':m'=true:=hm rfl
 subst hm'
 have hk0:=hk 0 hn
 rw [Nat.add_zero] at hk0
 have hlt:=(List.getElem?_eq_some_iff.1 hk0).1
 have hseg:seg l off 1 = [κ]:=by
  unfold seg
  dsimp only at hk0 hlt
  rw [List.drop_eq_getElem_cons hlt]
  rw [List.getElem?_eq_getElem hlt] at hk0
  cases hk0
  rfl
 exact store_ok hc hw hi (v := .pointer (some ⟨b,off,none⟩)) (l:=l) (ks := [κ]) (off:=off) ⟨b,true,rfl,hb,fun _=>rfl⟩ hu (by simp [h1]) hseg (by dsimp only at hlt; simp; omega) hnw
def lenT:T→Option T
 | .sl _=>some (.int .i64 0 1000000)
 | .ss _ _ lo hi=>if hi≤1000000000 then some (.int .i64 lo hi) else none
 | .ow _ lo hi=>some (.int .i64 lo hi)
 | .nl=>some (.int .i64 0 0)
 | _=>none
theorem len_ok (hc:c.Ok) (hw:WT c.gt σ w) {t ty:TypeId} {i:TI} (hi:c.t t=some i) (hsl:i.sl.isSome=true) {v:Value} {τ ρ:T} (hv:VT σ v τ) (h:lenT τ=some ρ):Yl c σ w (Builtin.len_ #[t] ty #[v]) ρ:=by
 obtain ⟨n,hn⟩:=Option.isSome_iff_exists.1 hsl
 obtain ⟨e,_,_,hu,_⟩:=(hc.t hi).sl n hn
 have key : ∀ a k z,v = .slice a k z→VT σ (.int .i64 (k:Int)) ρ→Yl c σ w (Builtin.len_ #[t] ty #[v]) ρ:=fun a k z e hr=>by
  subst e
  exact ⟨goInt k,w,by simp [Builtin.len_,run_underlying hu],.stay hw hr⟩
 cases τ <;> simp only [lenT] at h
 case sl =>
  cases h
  obtain ⟨a,k,z,e,h1,h2,h3,_⟩:=hv
  exact key a k z e ⟨_,rfl,by omega,by omega⟩
 case ss m κ lo hi' =>
  split at h
  ·cases h
   obtain ⟨a,k,z,e,h1,h2,_⟩:=hv
   exact key a k z e ⟨_,rfl,by omega,by omega⟩
  · cases h
 case ow κs lo hi' =>
  cases h
  rcases hv with ⟨e,h0⟩ | ⟨b,k,z,l,e,h1,h2,_⟩
  · exact key none 0 0 e ⟨_,rfl,by omega,by omega⟩
  · exact key _ k z e ⟨_,rfl,by omega,by omega⟩
 case nl=>cases h; exact key none 0 0 hv ⟨_,rfl,by omega,by omega⟩
 all_goals cases h
theorem slidx_ok (hc:c.Ok) (hw:WT c.gt σ w) {t:TypeId} {i:TI} (hi:c.t t=some i) (hsl:i.sl=some 1) {v:Value} {m:Bool} {κ:K} {lo hi':Nat} (hv:SS σ v m κ lo hi') {k:IntKind} {j:Int} (h0:0≤j) (h1:j<lo) :
 Yl c σ w (Instr.indexAt t v (.int k j)) (.pk m κ 1):=by
 obtain ⟨a,len,cap,rfl,l1,l2,l3,l4,l5,l6⟩:=hv
 obtain ⟨e,ie,z,hu,hie,hes,_⟩:=(hc.t hi).sl 1 hsl
 cases a with
 | none=>have:=l5 rfl; omega
 | some p =>
   obtain ⟨hs,m',l,hb,hm,hk⟩:=l6 p rfl
   refine ⟨.pointer (some (p.add j.toNat)),w,?_,.stay hw ⟨_,m',l,rfl,by rw [addr_plain hs],?_,hm,fun i' hi' => ?_⟩⟩
   ·have h2:j<(len:Int):=by omega
    simp [Instr.indexAt,run_underlying hu,asIntOf,h0,h2,sizeOf,run_typeInfo w hie,hes]
   · rw [addr_plain hs]; exact hb
   ·rw [addr_plain hs]
    have:=hk j.toNat (by omega)
    obtain rfl:i'=0:=by omega
    simpa using this
theorem OW.ss {v:Value} {κ:K} {lo hi:Nat} (h:OW σ v [κ] lo hi):SS σ v true κ lo hi:=by
 rcases h with ⟨rfl,rfl⟩ | ⟨b,len,cap,l,rfl,h1,h2,h3,h4,hb,h5,h6⟩
 · exact ⟨none,0,0,rfl,Nat.le_refl _,Nat.zero_le _,Nat.le_refl _,Nat.zero_le _,fun _=>rfl,fun _ h=>nomatch h⟩
 ·refine ⟨_,len,cap,rfl,h1,h2,h3,h4,(fun h=>nomatch h),fun p hp => ?_⟩
  cases hp
  exact ⟨rfl,true,l,hb,fun _=>rfl,fun i hi=>by simpa using h6 i 0 κ (by omega) rfl⟩
theorem arrslice_ok (hc:c.Ok) (hw:WT c.gt σ w) {t:TypeId} {i:TI} (hi:c.t t=some i) {n:Nat} (ha:i.arr=some (n,1,false)) {v:Value} {m:Bool} {l:List K} {off:Nat} (hv:VT σ v (.ptr m l off))
 (lw hg:Option Value) {lo h:Nat} (hlo:(lw=none∧lo=0) ∨ ∃ k,lw=some (.int k lo)) (hhi:(hg=none∧h=n) ∨ ∃ k,hg=some (.int k h)) (h1:lo≤h) (h2:h≤n) (h3:n≤1000000) {τ:T}
 (hk:sliceK m (seg l (off+lo) (h-lo)) (h-lo)=some τ):Yl c σ w (Instr.sliceAt t v lw hg none) τ:=by
 obtain ⟨b,m',rfl,hb,hm⟩:=hv
 obtain ⟨e,ie,de,hu,hie,hes,_,_⟩:=(hc.t hi).arr n 1 false ha
 have hbl:(Instr.sliceBounds false n n lw hg none).run c.P w = .ok (lo,h,n) w:=by
  rcases hlo with ⟨rfl,rfl⟩ | ⟨k,rfl⟩ <;> rcases hhi with ⟨rfl,rfl⟩ | ⟨k',rfl⟩ <;>
   simp [Instr.sliceBounds,Instr.sliceBound,asIntOf,h1,h2]
 have hrun:(Instr.sliceAt t (.pointer (some ⟨b,off,none⟩)) lw hg none).run c.P w = .ok (.slice (some (if n=lo then ⟨b,off,none⟩ else ⟨b,off+lo,none⟩)) (h-lo) (n-lo)) w:=by
  simp [Instr.sliceAt,run_underlying hu,Instr.sureAddr,hbl,sizeOf,run_typeInfo w hie,hes,al_add]
 refine ⟨_,w,hrun,.stay hw ?_⟩
 have key : ∀ κ,(∀ j,j<h-lo→l[off+lo+j]? = some κ)→VT σ (.slice (some (if n=lo then ⟨b,off,none⟩ else ⟨b,off+lo,none⟩)) (h-lo) (n-lo)) (.ss m κ (h-lo) (h-lo)):=by
  intro κ hκ
  refine ⟨_,_,_,rfl,Nat.le_refl _,Nat.le_refl _,by omega,by unfold maxLen; omega,(fun h=>nomatch h),fun p hp => ?_⟩
  cases hp
  split
  · exact ⟨rfl,m',l,hb,hm,fun j hj=>by omega⟩
  · exact ⟨rfl,m',l,hb,hm,hκ⟩
 unfold sliceK at hk
 split at hk
 ·split at hk
  ·rename_i hz
   cases hk
   have:=key .any (fun j hj=>by omega)
   rwa [hz] at this ⊢
  · cases hk
 ·rename_i κ r hseg
  split at hk
  ·rename_i hz
   cases hk
   refine key κ (fun j hj => ?_)
   have h4:(seg l (off+lo) (h-lo))[j]? = some κ:=by
    rw [hz.1,List.getElem?_replicate,if_pos hj]
   unfold seg at h4
   rw [List.getElem?_take,if_pos hj,List.getElem?_drop] at h4
   exact h4
  · cases hk
theorem toarr_ok (hc:c.Ok) (hw:WT c.gt σ w) {t:TypeId} {i:TI} (hi:c.t t=some i) {n:Nat} (ha:i.arr=some (n,1,false)) {v:Value} {m:Bool} {κ:K} {lo hi':Nat} (hv:SS σ v m κ lo hi') (h0:0<n) (h1:n≤lo) :
 Yl c σ w (Instr.arrayAt t v) (.pk m κ n):=by
 obtain ⟨a,len,cap,rfl,l1,l2,l3,l4,l5,l6⟩:=hv
 obtain ⟨e,ie,de,hu,_⟩:=(hc.t hi).arr n 1 false ha
 cases a with
 | none=>have:=l5 rfl; omega
 | some p =>
   obtain ⟨hs,m',l,hb,hm,hk⟩:=l6 p rfl
   refine ⟨.pointer (some p),w,?_,.stay hw ⟨p,m',l,rfl,hs,hb,hm,fun j hj=>hk j (by omega)⟩⟩
   simp [Instr.arrayAt,run_underlying hu,Nat.not_lt.2 (show n≤len by omega)]
theorem make_ok (hc:c.Ok) (hw:WT c.gt σ w) {t:TypeId} {i:TI} (hi:c.t t=some i) (hsl:i.sl=some 1) {κ:K} (hz:i.slz = [κ]) {k k':IntKind} {n:Int} (h0:0≤n) (h1:n≤100000) :
 Yl c σ w (Instr.makeSlice t (.int k n) (.int k' n)) (.ow [κ] n.toNat n.toNat):=by
 obtain ⟨e,ie,z,hu,hie,hes,hiz,hzk,_,hby⟩:=(hc.t hi).sl 1 hsl
 obtain ⟨N,rfl⟩:=Int.eq_ofNat_of_zero_le h0
 rw [hz] at hzk
 obtain ⟨u,hu1,hu2⟩:=hzk.2 0 κ rfl
 have hzs:z.cells.size=1:=by have:=hzk.1; simpa using this
 have hbytes:(ie.bytes:Int)*(N:Int)≤281474976710656:=by
  have:ie.bytes*N≤1024*100000:=Nat.mul_le_mul hby (by omega)
  have h3:((ie.bytes*N:Nat):Int)≤102400000:=by omega
  rw [Int.natCast_mul] at h3
  omega
 have hrun:=run_makeSlice (P:=c.P) w t e ie z hu hie hiz k k' (N:Int) (N:Int) h0 (Int.le_refl _) (by rw [hes]; simp; omega) hbytes (by omega)
 rw [hes,Nat.mul_one,Int.toNat_natCast] at hrun
 have hu2':KT σ u κ:=hu2.mono (Le.nil _)
 have hC:CT σ (madeCells z.cells N).toList (List.replicate N κ):=by
  refine ⟨by simp [madeCells],fun j κ' hj => ?_⟩
  rw [List.getElem?_replicate] at hj
  split at hj
  ·rename_i hjl
   cases hj
   refine ⟨u,?_,hu2'⟩
   have:z.cells[0]? = some u:=by simpa using hu1
   obtain ⟨_,h3⟩:=Array.getElem?_eq_some_iff.1 this
   simp [madeCells,hjl,hzs,Nat.mod_one,h3]
  · cases hj
 obtain ⟨g1,g2⟩:=Go1.alloc hw (madeCells z.cells N) e (List.replicate N κ) hC (List.all_eq_true.2 fun x hx=>by rw [List.eq_of_mem_replicate hx]; have:=CT_pl (fun _=>rfl) hzk; simpa using this)
 refine ⟨_,_,hrun,_,g1,g2,.inr ⟨w.heap.size,N,N,List.replicate N κ,rfl,by simp,by simp,Nat.le_refl _,by unfold maxLen; omega,if_pos rfl,by simp,fun j j' κ' hj hj' => ?_⟩⟩
 match j' with
 | 0=>simp at hj'; subst hj'; simp [List.getElem?_replicate,hj]
 | j'+1=>simp at hj'
theorem flat_get {κs:List K} : ∀ (n i j:Nat) (κ:K),i<n→κs[j]? = some κ→(List.replicate n κs).flatten[i*κs.length+j]? = some κ
 | 0,i,j,κ,h,_=>by omega
 | n+1,i,j,κ,h,hj=>by
   have hjl:=(List.getElem?_eq_some_iff.1 hj).1
   rw [List.replicate_succ,List.flatten_cons]
   cases i with
   | zero=>rw [Nat.zero_mul,Nat.zero_add,List.getElem?_append_left hjl]; exact hj
   | succ i =>
     rw [List.getElem?_append_right (by rw [Nat.succ_mul]; omega),show (i+1)*κs.length+j-κs.length=i*κs.length+j by rw [Nat.succ_mul]; omega]
     exact flat_get n i j κ (by omega) hj
def zK (x:Bool) (i:TI):List K:=match x with
 | true=>i.slz.map exz
 | false=>i.slz
theorem TiOk.slz {P:Program} {t:TypeId} {i:TI} (h:TiOk P t i) (x:Bool) {n:Nat} (hn:i.sl=some n) : ∃ e ie z,P.underlying t=some (.slice e)∧P.info? e=some ie∧ie.size=n∧ie.zero=some z∧CT nil0 z.cells.toList (zK x i)∧(zK x i).length=n∧ie.bytes≤1024:=by
 obtain ⟨_,_,_,_,_,_,_,_,hl,_⟩:=h.sl n hn
 cases x with
 | false=>exact h.sl n hn
 | true =>
   obtain ⟨e,ie,z,h1,h2,h3,h4,h5,h6⟩:=h.slx n hn
   exact ⟨e,ie,z,h1,h2,h3,h4,h5,by simp [zK,hl],h6⟩
theorem bs_run (hc:c.Ok) {t:TypeId} {i:TI} (hi:c.t t=some i) {es:Nat} (hsl:i.sl=some es) {n:Nat} {ps:Array (Nat×Operand)} (hx : ∀ p∈ps.toList,VT σ (a.eval p.2) (ty c.gt Γ p.2)) {qs:List (Nat×List K)}
 (hq:partsK c Γ ps.toList=some qs) (hn:n*es≤100000) (he:0<es) (hn0:0<n) (x:Bool) {l0:List K} (hl:fillK (fun j=>some (j*es,es)) (List.replicate n (zK x i)).flatten qs=some l0) :
 ∃ C' e,(Instr.buildSlice t n (ps.map fun p=>(p.1,a.eval p.2))).run c.P w = .ok (.slice (some ⟨w.heap.size,0,none⟩) n n) (w.alloc (.cells C' e))∧CT σ C'.toList l0:=by
 obtain ⟨e,ie,z,hu,hie,hes,hiz,hzk,hzl,hby⟩:=(hc.t hi).slz x hsl
 have hzk':CT σ z.cells.toList (zK x i):=hzk.mono (Le.nil _)
 have hzs:z.cells.size=es:=by have:=hzk'.1; simp at this; omega
 have hC0:CT σ ((Array.range (n*es)).map (z.cells[· % z.cells.size]!)).toList (List.replicate n (zK x i)).flatten:=by
  refine ⟨by simp [hzl],fun j κ hj => ?_⟩
  have hjl:j<n*es:=by
   have:=(List.getElem?_eq_some_iff.1 hj).1
   simpa [hzl] using this
  have hq:j / es<n:=(Nat.div_lt_iff_lt_mul he).2 hjl
  have hr:j%es<es:=Nat.mod_lt _ he
  have hsome:(zK x i)[j%es]? = some ((zK x i)[j%es]'(by omega)):=List.getElem?_eq_getElem _
  have h2:=flat_get (κs:=zK x i) n (j / es) (j%es) _ hq hsome
  have e3:j / es*(zK x i).length+j%es=j:=by rw [hzl]; exact Nat.div_add_mod' ..
  rw [e3] at h2
  rw [h2] at hj
  cases hj
  obtain ⟨u,hu1,hu2⟩:=hzk'.2 _ _ hsome
  refine ⟨u,?_,hu2⟩
  have hu1':z.cells[j%es]? = some u:=by simpa using hu1
  obtain ⟨hlt3,h3⟩:=Array.getElem?_eq_some_iff.1 hu1'
  simp [hjl,hzs]
  rw [getElem!_pos z.cells (j%es) hlt3]
  exact h3
 have hp:=partsK_ok _ _ hx hq
 have hpl:(ps.map fun p=>(p.1,a.eval p.2)).toList=ps.toList.map fun x=>(x.1,a.eval x.2):=by simp
 obtain ⟨C',f1,f2'⟩:=fill_ok _ _ _ _ _ _ hC0 hl hp
 have hn2:n≤n*es:=Nat.le_mul_of_pos_right n he
 refine ⟨C',e,?_,f2'⟩
 have hlim : ¬ (2^24<n*es):=by omega
 have hne : ¬ (n*es=0):=by
  have:=Nat.mul_pos hn0 he
  omega
 unfold Instr.buildSlice
 simp only [Sem.run_bind,run_underlying hu,Result.andThen_ok,sizeOf,run_typeInfo w hie,Sem.run_pure,hes,if_neg hlim,if_neg hne,zeroValue,hiz,hpl,f1,newRow,run_newObj_alloc,gt_iff_lt]
theorem buildS_ok (hc:c.Ok) (hw:WT c.gt σ w) {t:TypeId} {i:TI} (hi:c.t t=some i) {es:Nat} (hsl:i.sl=some es) {n:Nat} {ps:Array (Nat×Operand)} {l:List K} (hpp:l.all pK=true) (hx : ∀ p∈ps.toList,VT σ (a.eval p.2) (ty c.gt Γ p.2)) {qs:List (Nat×List K)}
 (hq:partsK c Γ ps.toList=some qs) (hn:n*es≤100000) (he:0<es) (hn0:0<n) {l0:List K} (hl:fillK (fun j=>some (j*es,es)) (List.replicate n i.slz).flatten qs=some l0) (hle : ∀ C:List Value,CT σ C l0→CT σ C l) {κs:List K} (hκ:l.length=n*κs.length) (hκ0:κs.length=es)
 (hall : ∀ (i j:Nat) (κ:K),i<n→κs[j]? = some κ→l[i*κs.length+j]? = some κ):Yl c σ w (Instr.buildSlice t n (ps.map fun p=>(p.1,a.eval p.2))) (.ow κs n n):=by
 obtain ⟨C',e,hr,f2'⟩:=bs_run (w:=w) hc hi hsl hx hq hn he hn0 false hl
 have hn2:n≤n*es:=Nat.le_mul_of_pos_right n he
 obtain ⟨g1,g2⟩:=Go1.alloc hw C' e l (hle _ f2') hpp
 exact ⟨_,_,hr,_,g1,g2,.inr ⟨w.heap.size,n,n,l,rfl,Nat.le_refl _,Nat.le_refl _,Nat.le_refl _,by unfold maxLen; omega,if_pos rfl,hκ,hall⟩⟩
theorem partsK_nil {c:Ctx} {Γ:Env} : ∀ {l:List (Nat×Operand)},partsK c Γ l=some []→l = []
 | [],_=>rfl
 | (i,x)::r,h=>by
   unfold partsK at h
   split at h <;> cases h
theorem buildS0_ok (hc:c.Ok) (hw:WT c.gt σ w) {t:TypeId} {i:TI} (hi:c.t t=some i) {es:Nat} (hsl:i.sl=some es) (f:Nat×Operand→Nat×Value) {ps:Array (Nat×Operand)} (hps:ps.toList = []) :
 Yl c σ w (Instr.buildSlice t 0 (ps.map f)) (.ow i.slz 0 0):=by
 obtain ⟨e,ie,z,hu,hie,hes,hiz,hzk,hzl,hby⟩:=(hc.t hi).sl es hsl
 have hps':ps = #[]:=by rw [← Array.toArray_toList (xs:=ps),hps]
 subst hps'
 obtain ⟨g1,g2⟩:=Go1.alloc hw #[] e [] ⟨rfl,fun i κ hi=>by simp at hi⟩ rfl
 refine ⟨.slice (some ⟨w.heap.size,0,none⟩) 0 0,_,?_,_,g1,g2,.inr ⟨w.heap.size,0,0,[],rfl,Nat.le_refl _,Nat.le_refl _,Nat.le_refl _,by unfold maxLen; omega,if_pos rfl,by simp,fun i j κ hi=>by omega⟩⟩
 unfold Instr.buildSlice
 simp [Sem.run_bind,run_underlying hu,Result.andThen_ok,sizeOf,run_typeInfo w hie,Instr.fill,newRow]
 rw [show Array.range 0 = #[] from by simp [Array.range],Array.map_empty]
theorem bs_ok (hc:c.Ok) (hw:WT c.gt σ w) {t:TypeId} {i:TI} (hi:c.t t=some i) {es:Nat} (hsl:i.sl=some es) {n:Nat} {ps:Array (Nat×Operand)} (hx : ∀ p∈ps.toList,VT σ (a.eval p.2) (ty c.gt Γ p.2)) {qs:List (Nat×List K)}
 (hq:partsK c Γ ps.toList=some qs) {τ:T} (h:bsK i es n qs=some τ):Yl c σ w (Instr.buildSlice t n (ps.map fun p=>(p.1,a.eval p.2))) τ:=by
 unfold bsK at h
 split at h
 ·rename_i hh
  obtain ⟨rfl,_,h3⟩:=hh
  cases h
  have hq0:qs = []:=List.eq_nil_of_length_eq_zero h3
  subst hq0
  exact buildS0_ok hc hw hi hsl _ (partsK_nil hq)
 split at h
 ·rename_i hh
  obtain ⟨h1,h2,h3⟩:=hh
  split at h
  ·rename_i l hl
   obtain ⟨_,_,_,_,_,_,_,_,hz,_⟩:=(hc.t hi).sl es hsl
   have hll:l.length=n*es:=by
    rw [fillK_length _ _ _ hl]
    simp [hz]
   split at h
   · cases h
   rename_i hpl
   have hpl:l.all pK=true:=by cases hh:l.all pK with | true=>rfl | false=>exact absurd hh hpl
   split at h
   ·rename_i he
    obtain ⟨he1,he2⟩:=he
    cases h
    rw [he1,Nat.mul_one] at hll
    refine buildS_ok hc hw hi hsl (List.all_eq_true.2 fun x hx=>by rw [List.eq_of_mem_replicate hx]; rfl) hx hq h1 h2 h3 hl (l:=List.replicate l.length (.sl 1)) (fun _ h=>kle_ok he2 h) (κs := [.sl 1]) (by rw [List.length_replicate,hll]; simp) (by rw [he1]; rfl) (fun i' j κ' hi' hj => ?_)
    cases j with
    | zero =>
      cases hj
      rw [List.length_singleton,Nat.mul_one,Nat.add_zero,List.getElem?_replicate,if_pos (by rw [hll]; exact hi')]
    | succ j=>simp at hj
   ·split at h
    ·rename_i hn1
     cases h
     rw [hn1,Nat.one_mul] at hll
     have:=buildS_ok (a:=a) hc hw hi hsl hpl hx hq h1 h2 h3 hl (fun _ h=>h) (κs:=l) (by rw [hn1,Nat.one_mul]) hll (fun i' j κ hi' hj=>by
      have:i'=0:=by omega
      rw [this,Nat.zero_mul,Nat.zero_add]
      exact hj)
     rw [hn1] at this ⊢
     exact this
    ·split at h
     ·rename_i he
      obtain ⟨he1,he2⟩:=he
      cases h
      rw [he1,Nat.mul_one] at hll
      refine buildS_ok hc hw hi hsl hpl hx hq h1 h2 h3 hl (fun _ h=>h) (κs := [l.headD .any]) (by rw [hll]; simp) (by rw [he1]; rfl) (fun i' j κ' hi' hj => ?_)
      cases j with
      | zero =>
        cases hj
        rw [List.length_singleton,Nat.mul_one,Nat.add_zero,he2,List.getElem?_replicate,if_pos (by rw [hll]; exact hi')]
        rw [← he2]
      | succ j=>simp at hj
     ·split at h
      ·rename_i he
       obtain ⟨he1,he2⟩:=he
       cases h
       have hle:es≤l.length:=by rw [hll]; exact Nat.le_mul_of_pos_left es h3
       have htl:(l.take es).length=es:=by rw [List.length_take]; omega
       refine buildS_ok hc hw hi hsl hpl hx hq h1 h2 h3 hl (fun _ h=>h) (κs:=l.take es) (by rw [hll,htl]) htl (fun i' j κ' hi' hj => ?_)
       have:=flat_get n i' j κ' hi' hj
       rwa [← he2] at this
      · cases h
  · cases h
 · cases h
theorem copy_ok (hc:c.Ok) (hw:WT c.gt σ w) {t t' ty:TypeId} {i:TI} (hi:c.t t=some i) (hsl:i.sl=some 1) {v x:Value} {lo hi':Nat} (hv:SS σ v true (.int .u8) lo hi') (hx:SL σ x 1) (hb:hi'≤1000000) :
 Yl c σ w (Builtin.copy_ #[t,t'] ty #[v,x]) (.int .i64 0 1000000):=by
 obtain ⟨q,len,cap,rfl,l1,l2,l3,l4,l5,l6⟩:=hv
 obtain ⟨q2,len2,cap2,rfl,m1,m2,_,m3,m4⟩:=hx
 obtain ⟨e,ie,z,hu,hie,hes,_⟩:=(hc.t hi).sl 1 hsl
 have hs1:(c.P.info? e).map (·.size)=some 1:=by rw [hie]; simp [hes]
 by_cases hm:Nat.min len2 len=0
 · exact ⟨goInt 0,w,run_copy_none w t t' ty e q q2 len cap len2 cap2 hu hs1 hm,.stay hw ⟨0,rfl,by omega,by omega⟩⟩
 ·have hl0:0<len:=by rcases Nat.eq_zero_or_pos len with h | h; · rw [h] at hm; simp at hm
                     · exact h
  have hl2:0<len2:=by rcases Nat.eq_zero_or_pos len2 with h | h; · rw [h] at hm; simp at hm
                      · exact h
  cases q with
  | none=>have:=l5 rfl; omega
  | some p =>
    cases q2 with
    | none=>have:=m3 rfl; omega
    | some p2 =>
      obtain ⟨hs,m',l,hbl,hmm,hk⟩:=l6 p rfl
      obtain ⟨hs2,m2',l',hb2,hk2⟩:=m4 p2 rfl
      obtain ⟨g,o,s0⟩:=p
      obtain ⟨g2,o2,s2⟩:=p2
      obtain rfl:s0=none:=hs
      obtain rfl:s2=none:=hs2
      obtain rfl:m'=true:=hmm rfl
      dsimp only at hbl hb2 hk hk2
      obtain ⟨C,tt,f,hh,hf,hC⟩:=hw.blk g true l hbl
      obtain rfl:f=(0,0):=hf rfl
      obtain ⟨D,tt2,f2,hh2,_,hD⟩:=hw.blk g2 m2' l' hb2
      obtain ⟨n,hn⟩ : ∃ n,n=Nat.min len2 len:=⟨_,rfl⟩
      have hn1:n≤len2:=by rw [hn]; exact Nat.min_le_left ..
      have hn2:n≤len:=by rw [hn]; exact Nat.min_le_right ..
      have hDl:o2+n≤D.toList.length:=by
       have h7:=hk2 (len2-1) (by omega)
       have:=(List.getElem?_eq_some_iff.1 h7).1
       have:=hD.1
       omega
      have hCl:o+n≤C.toList.length:=by
       have h7:=hk (len-1) (by omega)
       have:=(List.getElem?_eq_some_iff.1 h7).1
       have:=hC.1
       omega
      have hcl:((D.toList.drop o2).take n).length=n:=by rw [List.length_take,List.length_drop]; omega
      have hcs:CT σ ((D.toList.drop o2).take n) (List.replicate n (.int .u8)):=by
       refine ⟨by simp [hcl],fun j κ hj => ?_⟩
       rw [List.getElem?_replicate] at hj
       split at hj
       ·rename_i hjn
        cases hj
        obtain ⟨u,hu1,hu2⟩:=hD.2 (o2+j) (.int .u8) (hk2 j (by omega))
        exact ⟨u,by rw [List.getElem?_take,if_pos hjn,List.getElem?_drop]; exact hu1,hu2⟩
       · cases hj
      have hrun:=run_copy_row (P:=c.P) w t t' ty e g o len cap ⟨g2,o2,none⟩ len2 cap2 C tt ((D.toList.drop o2).take n) hu hs1 hh (by rw [hcl,hn]) (fun j u hj=>by
       rw [al_add,cell_of_row w g2 _ _ _ _ hh2]
       rw [List.getElem?_take] at hj
       split at hj
       · rw [List.getElem?_drop] at hj; simpa using hj
       · cases hj) (by rw [hcl]; simpa using hCl) (fun u hu'=>hcs.one (fun κ hκ=>by rw [List.eq_of_mem_replicate hκ]; rfl) u hu')
      have hk':CT σ (C.toList.take o++(D.toList.drop o2).take n++C.toList.drop (o+((D.toList.drop o2).take n).length)) l:=by
       have hCl':=hC.1
       have h8:=hC.put hcs (o:=o) (by simp; omega)
       have e8:l.take o++List.replicate n (.int .u8)++l.drop (o+(List.replicate n (K.int .u8)).length)=l:=by
        apply List.ext_getElem?
        intro j
        rw [List.append_assoc,List.getElem?_append,List.getElem?_append]
        simp only [List.length_take,List.length_replicate,List.getElem?_take,List.getElem?_replicate,List.getElem?_drop]
        rw [show min o l.length=o by omega]
        by_cases h9:j<o
        · rw [if_pos h9,if_pos h9]
        ·rw [if_neg h9]
         by_cases h10:j-o<n
         · rw [if_pos h10,if_pos h10,← hk (j-o) (by omega),show o+(j-o)=j by omega]
         · rw [if_neg h10,show o+n+(j-o-n)=j by omega]
       rwa [e8] at h8
      obtain ⟨g1,g2'⟩:=Go1.set hw hbl (C.toList.take o++(D.toList.drop o2).take n++C.toList.drop (o+((D.toList.drop o2).take n).length)).toArray (by simpa using hk')
      exact ⟨_,_,hrun,σ,g1,g2',_,rfl,by omega,by rw [hcl]; omega⟩
theorem bys_of : ∀ {C:List Value},(∀ v∈C,KT σ v (.int .u8)) → ∃ l:List UInt8,C=Mem.bys l
 | [],_=>⟨[],rfl⟩
 | v::C,h=>by
   obtain ⟨l,rfl⟩:=bys_of (C:=C) (fun u hu=>h u (List.mem_cons_of_mem _ hu))
   obtain ⟨n,rfl,h1,h2⟩:=h v (List.mem_cons_self ..)
   simp only [klo,khi] at h1 h2
   refine ⟨UInt8.ofNat n.toNat::l,?_⟩
   show _=(Value.int .u8 ((UInt8.ofNat n.toNat).toNat:Int))::Mem.bys l
   congr 2
   simp
   omega
theorem SS.rd (hw:WT c.gt σ w) {x:Value} {m:Bool} {lo hi:Nat} (hx:SS σ x m (.int .u8) lo hi) : ∃ q cap,∃ l:List UInt8,x = .slice q l.length cap∧Mem.Rd w 1 x l.length (Mem.bys l)∧lo≤l.length∧l.length≤hi:=by
 obtain ⟨q,len,cap,rfl,l1,l2,l3,l4,l5,l6⟩:=hx
 cases q with
 | none =>
   obtain rfl:=l5 rfl
   obtain rfl:len=0:=by omega
   exact ⟨none,0,[],rfl,Mem.Rd.nil w 1,l1,l2⟩
 | some p =>
   obtain ⟨hs,m',l,hb,_,hk⟩:=l6 p rfl
   obtain ⟨b,o,s⟩:=p
   obtain rfl:s=none:=hs
   dsimp only at hb hk
   obtain ⟨C,t',f,hh,_,hC⟩:=hw.blk b m' l hb
   have cellAt : ∀ j,j<len → ∃ u,C.toList[o+j]? = some u∧KT σ u (.int .u8):=fun j hj=>hC.2 (o+j) _ (hk j hj)
   have hnl:((C.toList.drop o).take len).length=len:=by
    rw [List.length_take,List.length_drop]
    rcases Nat.eq_zero_or_pos len with e0 | e0
    · omega
    ·obtain ⟨u,h3,_⟩:=cellAt (len-1) (by omega)
     have:=(List.getElem?_eq_some_iff.1 h3).1
     omega
   obtain ⟨bs,hbs⟩:=bys_of (σ:=σ) (C:=(C.toList.drop o).take len) (fun v hv=>by
    obtain ⟨j,hj,rfl⟩:=List.mem_iff_getElem.1 hv
    obtain ⟨u,h3,h4⟩:=cellAt j (by omega)
    have h5:((C.toList.drop o).take len)[j]? = some u:=by rw [List.getElem?_take,if_pos (by omega),List.getElem?_drop]; exact h3
    rw [List.getElem?_eq_getElem hj] at h5
    cases h5
    exact h4)
   have hbl:bs.length=len:=by rw [← hnl,hbs,Mem.bys,List.length_map]
   subst hbl
   refine ⟨_,cap,bs,rfl,⟨by rw [Mem.bys,List.length_map,Nat.mul_one],.inr ⟨b,o,cap,rfl,hw.lt hb,l3,l4,fun j u hj => ?_⟩⟩,l1,l2⟩
   rw [cell_of_row w b _ _ _ _ hh]
   rw [← hbs,List.getElem?_take] at hj
   split at hj
   · rw [List.getElem?_drop] at hj; simpa using hj
   · cases hj
theorem SL.ss {x:Value} (hx:SL σ x 1):SS σ x false (.int .u8) 0 1000000:=by
 obtain ⟨a,len,cap,e,h1,h2,h0,h3,h4⟩:=hx
 refine ⟨a,len,cap,e,Nat.zero_le _,h0,h1,h2,h3,fun p hp => ?_⟩
 obtain ⟨hs,m,l,hb,h5⟩:=h4 p hp
 exact ⟨hs,m,l,hb,(fun h=>nomatch h),fun i hi=>h5 i (by omega)⟩
theorem conv_ok (hc:c.Ok) (hw:WT c.gt σ w) {t t':TypeId} {i0 i:TI} (hi0:c.t t=some i0) (hi:c.t t'=some i) (hst:i.str=true) (hsl:i0.sl=some 1) (hz:i0.u8=true) {x:Value} {m:Bool} {lo hi':Nat} (hx:SS σ x m (.int .u8) lo hi') :
 Yl c σ w (convert t t' x) .str:=by
 obtain ⟨e,ie,z,hu,hie,hes,_⟩:=(hc.t hi0).sl 1 hsl
 have hut:=(hc.t hi).str hst
 have hu8:c.P.underlying e=some (.int .u8):=by
  obtain ⟨e',hu',h8⟩:=(hc.t hi0).u8 hz
  rw [hu] at hu'
  cases hu'
  exact h8
 obtain ⟨q,cap,l,rfl,hl,_⟩:=SS.rd hw hx
 exact ⟨_,w,Mem.run_conv_str hl t' t e hut hu hu8,.stay hw ⟨_,rfl⟩⟩
theorem append_ok (hc:c.Ok) (hw:WT c.gt σ w) {t ty:TypeId} {i:TI} {κs:List K} (hi:c.t t=some i) (hsl:i.sl=some κs.length) (hk0:0<κs.length) (hzz:kle i.slz κs=true) {v x:Value} {lo hi' lo' hi2:Nat}
 (hv:OW σ v κs lo hi') (hx:OW σ x κs lo' hi2 ∨ ∃ m κ,κs = [κ]∧SS σ x m κ lo' hi2) (hlim:hi'+hi2≤100000000):Yl c σ w (Builtin.append_ #[t,t] ty #[v,x]) (.ow κs (lo+lo') (hi'+hi2)):=by
 obtain ⟨e,ie,z,hu,hie,hes,hiz,hzk,hzl,hby⟩:=(hc.t hi).sl _ hsl
 have hzk':CT σ z.cells.toList κs:=kle_ok hzz (hzk.mono (Le.nil _))
 have hzs:z.cells.size=κs.length:=by have:=hzk'.1; simpa using this
 have hkn:=kle_nw hzz
 have src : ∃ m news,Src c.P ie.size t x m news w∧lo'≤m∧m≤hi2∧(∀ (a b:Nat) (κ:K),a<m→κs[b]? = some κ → ∃ u,news[a*κs.length+b]? = some u∧KT σ u κ):=by
  rcases hx with (⟨rfl,rfl⟩ | ⟨b,len,cap,l,rfl,h1,h2,h3,h4,hb,h5,h6⟩) | ⟨mm,κ0,rfl,a,len,cap,rfl,h1,h2,h3,h4,h5,h6⟩
  · exact ⟨0,[],Src.ofNil w hu 0,Nat.le_refl _,Nat.zero_le _,fun a b κ ha=>by omega⟩
  rotate_left
  ·cases a with
   | none =>
     obtain rfl:=h5 rfl
     obtain rfl:len=0:=by omega
     exact ⟨0,[],Src.ofNil w hu 0,h1,h2,fun a b κ ha=>by omega⟩
   | some p =>
     obtain ⟨hs,m',l,hb,_,hk⟩:=h6 p rfl
     obtain ⟨b,o,s⟩:=p
     obtain rfl:s=none:=hs
     dsimp only at hb hk
     obtain ⟨C,t',f,hh,_,hC⟩:=hw.blk b m' l hb
     have cellAt : ∀ j,j<len → ∃ u,C.toList[o+j]? = some u∧KT σ u κ0:=fun j hj=>hC.2 (o+j) κ0 (hk j hj)
     have hnl:((C.toList.drop o).take len).length=len*ie.size:=by
      rw [List.length_take,List.length_drop,hes,List.length_singleton,Nat.mul_one]
      rcases Nat.eq_zero_or_pos len with e0 | e0
      · omega
      ·obtain ⟨u,h3,_⟩:=cellAt (len-1) (by omega)
       have:=(List.getElem?_eq_some_iff.1 h3).1
       omega
     refine ⟨len,(C.toList.drop o).take len,Src.ofSlice w hu ⟨b,o,none⟩ len cap _ hnl (fun j u hj => ?_) (fun u hu'=>by
      obtain ⟨j,hj,rfl⟩:=List.mem_iff_getElem.1 hu'
      have hj':j<len:=by rw [List.length_take] at hj; omega
      obtain ⟨u,h3,h4⟩:=cellAt j hj'
      have h5:((C.toList.drop o).take len)[j]? = some u:=by rw [List.getElem?_take,if_pos hj',List.getElem?_drop]; exact h3
      rw [List.getElem?_eq_getElem hj] at h5
      cases h5
      exact h4.one (hkn κ0 (by simp))),h1,h2,fun a d κ ha hd => ?_⟩
     ·rw [al_add,cell_of_row w b _ _ _ _ hh]
      rw [List.getElem?_take] at hj
      split at hj
      · rw [List.getElem?_drop] at hj; simpa using hj
      · cases hj
     ·cases d with
      | zero =>
        cases hd
        obtain ⟨u,h3,h4⟩:=cellAt a ha
        refine ⟨u,?_,h4⟩
        rw [List.length_singleton,Nat.mul_one,Nat.add_zero,List.getElem?_take,if_pos ha,List.getElem?_drop]
        exact h3
      | succ d=>simp at hd
  ·obtain ⟨C,t',f,hh,_,hC⟩:=hw.blk b true l hb
   have hCl:=hC.1
   have hle:len*κs.length≤C.toList.length:=by rw [hCl,h5]; exact Nat.mul_le_mul_right _ h3
   have hnl:(C.toList.take (len*κs.length)).length=len*ie.size:=by rw [List.length_take,hes]; omega
   refine ⟨len,C.toList.take (len*κs.length),Src.ofSlice w hu ⟨b,0,none⟩ len cap _ hnl (fun j u hj => ?_) (fun u hu'=>by
    obtain ⟨j,hj,rfl⟩:=List.mem_iff_getElem.1 hu'
    have hj':j<len*κs.length:=by rw [List.length_take] at hj; omega
    have hq:j / κs.length*κs.length+j%κs.length=j:=Nat.div_add_mod' j _
    have hd:κs[j%κs.length]? = some (κs[j%κs.length]'(Nat.mod_lt _ hk0)):=List.getElem?_eq_getElem _
    have h7:=h6 (j / κs.length) (j%κs.length) _ (by have:=(Nat.div_lt_iff_lt_mul hk0).2 hj'; omega) hd
    rw [hq] at h7
    obtain ⟨u,hu1,hu2⟩:=hC.2 _ _ h7
    have h5:(C.toList.take (len*κs.length))[j]? = some u:=by rw [List.getElem?_take,if_pos hj']; exact hu1
    rw [List.getElem?_eq_getElem hj] at h5
    cases h5
    exact hu2.one (hkn _ (List.getElem_mem _))),h1,h2,fun a d κ ha hd => ?_⟩
   ·rw [al_add,Nat.zero_add,cell_of_row w b _ _ _ _ hh]
    rw [List.getElem?_take] at hj
    split at hj
    · simpa using hj
    · cases hj
   ·have hdl:=(List.getElem?_eq_some_iff.1 hd).1
    obtain ⟨u,hu1,hu2⟩:=hC.2 _ κ (h6 a d κ (by omega) hd)
    refine ⟨u,?_,hu2⟩
    have:a*κs.length+d<len*κs.length:=by
     have:=Nat.mul_le_mul_right κs.length (show a+1≤len by omega)
     rw [Nat.succ_mul] at this
     omega
    rw [List.getElem?_take,if_pos this]
    exact hu1
 obtain ⟨m,news,hsrc,hm1,hm2,hnews⟩:=src
 have hnl:=hsrc.newsLen
 rw [hes] at hnl
 have grow : ∀ (q:Option Addr) (n cap:Nat) (olds:List Value),v = .slice q n cap→(Builtin.firstCells ie.size n (.slice q n cap)).run c.P w.drew = .ok olds.toArray w.drew→cap<n+m→lo≤n→n≤hi'→olds.length=n*κs.length →
  (∀ (a b:Nat) (κ:K),a<n→κs[b]? = some κ → ∃ u,olds[a*κs.length+b]? = some u∧KT σ u κ)→Yl c σ w (Builtin.append_ #[t,t] ty #[v,x]) (.ow κs (lo+lo') (hi'+hi2)):=by
  intro q n cap olds e1 hold hcap hn1 hn2 hol holds
  subst e1
  have hfit:(n+m)*ie.bytes≤140737488355328:=by
   have:=Nat.mul_le_mul (show n+m≤100000000 by omega) hby
   omega
  have hr:=run_append_grow_src (P:=c.P) w t t ty e ie z hu hie hiz q n cap olds hold x m news hsrc hcap (by omega) (growslice_fits hcap hfit)
  have hge:=grownCap_ge w (n+m) cap e
  have hgm:=grownCap_le_maxLen w (n+m) cap e (by unfold maxLen; omega)
  obtain ⟨G,hG⟩ : ∃ G,G=grownCap w (n+m) cap e:=⟨_,rfl⟩
  rw [← hG] at hr hge hgm
  have hC:CT σ ((olds++news).toArray++Builtin.zeroCells z.cells (G-(n+m))).toList (List.replicate G κs).flatten:=by
   have hzc:(Builtin.zeroCells z.cells (G-(n+m))).toList.length=(G-(n+m))*κs.length:=by simp [Builtin.zeroCells,hzs]
   refine ⟨?_,fun j κ hj => ?_⟩
   ·rw [Array.toList_append,List.length_append,hzc]
    simp only [List.length_append,hol,hnl,List.length_flatten,List.map_replicate,List.sum_replicate_nat]
    rw [← Nat.add_mul,← Nat.add_mul]
    congr 1
    omega
   ·have hjl:j<G*κs.length:=by
     have:=(List.getElem?_eq_some_iff.1 hj).1
     simpa using this
    have hq:j / κs.length<G:=(Nat.div_lt_iff_lt_mul hk0).2 hjl
    have hr':j%κs.length<κs.length:=Nat.mod_lt _ hk0
    have e3:j / κs.length*κs.length+j%κs.length=j:=Nat.div_add_mod' ..
    have hκ:κs[j%κs.length]? = some κ:=by
     have h2:=flat_get (κs:=κs) G (j / κs.length) (j%κs.length) _ hq (List.getElem?_eq_getElem hr')
     rw [e3,hj] at h2
     rw [List.getElem?_eq_getElem hr']
     exact h2.symm
    rw [Array.toList_append,List.getElem?_append]
    by_cases hlt:j<(n+m)*κs.length
    ·rw [if_pos (by simp [hol,hnl,← Nat.add_mul]; exact hlt)]
     show ∃ v,(olds++news)[j]? = some v∧KT σ v κ
     rw [List.getElem?_append,hol]
     by_cases hlt2:j<n*κs.length
     ·rw [if_pos hlt2]
      have:=holds (j / κs.length) (j%κs.length) κ ((Nat.div_lt_iff_lt_mul hk0).2 hlt2) hκ
      rwa [e3] at this
     ·rw [if_neg hlt2]
      have hq2:n≤j / κs.length:=(Nat.le_div_iff_mul_le hk0).2 (by omega)
      have hq3:j / κs.length<n+m:=(Nat.div_lt_iff_lt_mul hk0).2 hlt
      have:=hnews (j / κs.length-n) (j%κs.length) κ (by omega) hκ
      rwa [show (j / κs.length-n)*κs.length+j%κs.length=j-n*κs.length by rw [Nat.sub_mul]; have:=Nat.mul_le_mul_right κs.length hq2; omega] at this
    ·rw [if_neg (by simp [hol,hnl,← Nat.add_mul]; omega)]
     obtain ⟨u,hu1,hu2⟩:=hzk'.2 _ κ hκ
     refine ⟨u,?_,hu2⟩
     have hlen:(olds++news).toArray.toList.length=(n+m)*κs.length:=by simp [hol,hnl,Nat.add_mul]
     rw [hlen]
     have hjz:j-(n+m)*κs.length<(G-(n+m))*κs.length:=by rw [Nat.sub_mul]; omega
     have hmod:(j-(n+m)*κs.length)%κs.length=j%κs.length:=by
      have e6:j-(n+m)*κs.length+(n+m)*κs.length=j:=Nat.sub_add_cancel (by omega)
      conv=>rhs; rw [← e6]
      exact (Nat.add_mul_mod_self_right _ _ _).symm
     have hu1':z.cells[j%κs.length]? = some u:=by simpa using hu1
     obtain ⟨hlt3,h3⟩:=Array.getElem?_eq_some_iff.1 hu1'
     simp [Builtin.zeroCells,hzs,hjz,hmod]
     rw [getElem!_pos z.cells (j%κs.length) hlt3]
     exact h3
  obtain ⟨g1,g2⟩:=Go1.alloc (hw.drew) _ e _ hC (List.all_eq_true.2 fun x hx=>by
   obtain ⟨r,hr,hx⟩:=List.mem_flatten.1 hx
   rw [List.eq_of_mem_replicate hr] at hx
   exact List.all_eq_true.1 (kle_pl hzz (CT_pl (fun _=>rfl) hzk)) x hx)
  refine ⟨_,_,hr,_,⟨g1.same,g1.os,g1.tape,g1.output,g1.size,g1.kept,g1.rho,g1.ad,g1.pv⟩,g2,.inr ⟨w.heap.size,n+m,G,(List.replicate G κs).flatten,rfl,by omega,by omega,hge,hgm,if_pos rfl,by simp,fun i j κ h1 h2=>flat_get G i j κ h1 h2⟩⟩
 rcases hv with ⟨rfl,rfl⟩ | ⟨b,len,cap,l,rfl,h1,h2,h3,h4,hb,h5,h6⟩
 ·by_cases hm0:m=0
  ·subst hm0
   have hn:news = []:=List.eq_nil_of_length_eq_zero (by simpa using hnl)
   subst hn
   have hcs:=hsrc.cells
   refine ⟨.slice none 0 0,w,?_,.stay hw (.inl ⟨rfl,by omega⟩)⟩
   rcases hsrc.kind with ⟨e',hk⟩ | hk <;> simp [Builtin.append_,run_underlying hu,run_underlying hk,sizeOf,typeInfo,hie,hsrc.len,hcs]
  · exact grow none 0 0 [] rfl (run_firstCells_none w.drew ie.size 0 0 0) (by omega) (Nat.le_refl _) (Nat.zero_le _) (by simp) (fun a b κ ha=>by omega)
 ·obtain ⟨C,t',f,hh,hf,hC⟩:=hw.blk b true l hb
  obtain rfl:f=(0,0):=hf rfl
  have hCl:=hC.1
  simp only [Array.length_toList] at hCl
  by_cases hroom:len+m≤cap
  ·have hfit:len*κs.length+news.length≤C.size:=by
    rw [hnl,← Nat.add_mul,hCl,h5]
    exact Nat.mul_le_mul_right _ hroom
   have hr:=run_append_room_src (P:=c.P) w t t ty e ie hu hie b 0 len cap x m news hsrc hroom
    (fun j hj=>by
     rw [cell_of_row w b _ C t' (0,0) hh,hes]
     have:0+len*κs.length+j<C.size:=by omega
     rw [Array.getElem?_eq_getElem this]; rfl)
    (fun j hj=>frozen_of_row _ _ _ _ _ hh)
   rw [hes,Nat.zero_add] at hr
   obtain ⟨C',k2,k3,k4,k5⟩:=Mem.setCells_block b t' (0,0) news (len*κs.length) w C hh
   have hC':CT σ C'.toList l:=by
    refine ⟨by simp [k3,hCl],fun j κ hj => ?_⟩
    have hjl:=(List.getElem?_eq_some_iff.1 hj).1
    have e4:=k4 j
    rw [Array.getElem?_toList]
    rw [e4]
    by_cases hin:len*κs.length≤j∧j<len*κs.length+news.length∧j<C.size
    ·rw [if_pos hin]
     have hr':j%κs.length<κs.length:=Nat.mod_lt _ hk0
     have e3:j / κs.length*κs.length+j%κs.length=j:=Nat.div_add_mod' ..
     have hq2:len≤j / κs.length:=(Nat.le_div_iff_mul_le hk0).2 hin.1
     have hq3:j / κs.length<len+m:=(Nat.div_lt_iff_lt_mul hk0).2 (by rw [Nat.add_mul,← hnl]; exact hin.2.1)
     have hκ:κs[j%κs.length]? = some κ:=by
      have h7:=h6 (j / κs.length) (j%κs.length) _ (by omega) (List.getElem?_eq_getElem hr')
      rw [e3,hj] at h7
      rw [List.getElem?_eq_getElem hr']
      exact h7.symm
     have:=hnews (j / κs.length-len) (j%κs.length) κ (by omega) hκ
     rwa [show (j / κs.length-len)*κs.length+j%κs.length=j-len*κs.length by rw [Nat.sub_mul]; have:=Nat.mul_le_mul_right κs.length hq2; omega] at this
    ·rw [if_neg hin]
     obtain ⟨u,hu1,hu2⟩:=hC.2 j κ hj
     exact ⟨u,by simpa using hu1,hu2⟩
   have hne : ∀ k,k≠b→(w.setCells b (len*κs.length) news).heap[k]? = w.heap[k]? ∨ w.heap.size≤k:=fun k hk=>by
    rcases Nat.lt_or_ge k w.heap.size with h | h
    · exact .inl (k5.block k h (fun e=>hk (by cases e; rfl)))
    · exact .inr h
   refine ⟨_,_,hr,σ,⟨fun _ _=>rfl,k5.os,k5.tape,k5.output,k5.size,fun k hk hn=>k5.block k hk (fun e=>hn l (by cases e; exact hb)),rfl,rfl,rfl⟩,⟨hw.old.go (Go1.go ⟨fun _ _=>rfl,k5.os,k5.tape,k5.output,k5.size,fun k hk hn=>k5.block k hk (fun e=>hn l (by cases e; exact hb)),rfl,rfl,rfl⟩),hw.rho,hw.tab,fun g D hg => ?_,fun k mm l' hk => ?_,fun j l' hj => ?_,hw.inj,hw.pl⟩,.inr ⟨b,len+m,cap,l,rfl,by omega,by omega,hroom,h4,hb,h5,h6⟩⟩
   ·obtain ⟨⟨l',hl⟩,t2,f2,hh2⟩:=hw.fx g D hg
    refine ⟨⟨l',hl⟩,t2,f2,?_⟩
    rcases hne g (fun e=>by rw [e,hb] at hl; cases hl) with h | h
    · rw [h]; exact hh2
    · have:=hw.lt hl; omega
   ·obtain ⟨D,t2,f2,hh2,q1,q2⟩:=hw.blk k mm l' hk
    by_cases hkb:k=b
    ·subst hkb
     rw [hb] at hk
     cases hk
     exact ⟨C',t',(0,0),k2,fun _=>rfl,hC'⟩
    ·refine ⟨D,t2,f2,?_,q1,q2⟩
     rcases hne k hkb with h | h
     · rw [h]; exact hh2
     · have:=hw.lt hk; omega
   ·obtain ⟨q0,D,t2,hh2,q2⟩:=hw.pvt j l' hj
    refine ⟨q0,D,t2,?_,q2⟩
    rcases hne (σ.ad j) (fun e=>by rw [e,hb] at q0; cases q0) with h | h
    · rw [h]; exact hh2
    · have:=(Array.getElem?_eq_some_iff.1 hh2).1; omega
  ·have hle:len*κs.length≤C.toList.length:=by simp only [Array.length_toList]; rw [hCl,h5]; exact Nat.mul_le_mul_right _ h3
   refine grow (some ⟨b,0,none⟩) len cap (C.toList.take (len*κs.length)) rfl ?_ (by omega) h1 h2 (by rw [List.length_take]; omega) (fun a d κ ha hd => ?_)
   ·refine run_firstCells_some w.drew ie.size len ⟨b,0,none⟩ len cap _ (by rw [List.length_take,hes]; omega) (fun j u hj => ?_)
    rw [al_add,Nat.zero_add,World.cell?_drew,cell_of_row w b _ _ _ _ hh]
    rw [List.getElem?_take] at hj
    split at hj
    · simpa using hj
    · cases hj
   ·have hdl:=(List.getElem?_eq_some_iff.1 hd).1
    obtain ⟨u,hu1,hu2⟩:=hC.2 _ κ (h6 a d κ (by omega) hd)
    refine ⟨u,?_,hu2⟩
    have:a*κs.length+d<len*κs.length:=by
     have:=Nat.mul_le_mul_right κs.length (show a+1≤len by omega)
     rw [Nat.succ_mul] at this
     omega
    rw [List.getElem?_take,if_pos this]
    exact hu1
end
end Ab
end Go.Proofs.YtfodadedkilgdaaGreatDoor

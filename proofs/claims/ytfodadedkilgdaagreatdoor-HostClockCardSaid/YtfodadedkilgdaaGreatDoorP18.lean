/- A part of the proof. Plain; no condition. -/
import Derived.Test.YtfodadedkilgdaaGreatDoorP17
namespace Go.Proofs.YtfodadedkilgdaaGreatDoor
set_option linter.unusedVariables false
set_option linter.unusedSimpArgs false
open Go.RowKit
namespace Ab
def priv (c:Ctx) (d:Option Tmp):Bool:=match c.own,d with
 | some l,some d => !(l.any fun x=>Nat.beq x d)
 | _,_=>false
def partsB (i:TI) (es:Nat):Option Nat:=match i.slz with
 | [.sl es']=>if es=1 then some es' else none
 | _=>none
def partA (Γ:Env) (es:Nat):K→Option (P1×List Nat)
 | .os j o len=>match rowOf Γ.rows j with
   | some r=>if o+len*es≤r.length then some (.r es ((r.drop o).take (len*es)),[j]) else none
   | none=>none
 | κ=>some (.t κ,[])
def partsA (Γ:Env) (es:Nat):List K→Option (List P1×List Nat)
 | []=>some ([],[])
 | κ::r=>match partA Γ es κ,partsA Γ es r with
   | some (p,l),some (ps,m)=>some (p::ps,l++m)
   | _,_=>none
noncomputable def viewA (c:Ctx) (Γ:Env) (t:Option TypeId) (x:Operand):Option (A×List Nat):=match ty c.gt Γ x with
 | .os j o len _=>match t with
   | some t=>match c.t t with
     | some i=>match i.sl with
       | some es=>match rowOf Γ.rows j with
         | some r=>if o+len*es≤r.length then match partsB i es with
           | some es'=>match partsA Γ es' ((r.drop o).take len) with
             | some (l,m)=>some (.rr l,j::m)
             | none=>none
           | none=>some (.rl es ((r.drop o).take (len*es)),[j])
           else none
         | none=>none
       | none=>none
     | none=>none
   | none=>none
 | τ=>some (.t τ,[])
noncomputable def viewAs (c:Ctx) (Γ:Env):List TypeId→List Operand→Option (List A×List Nat)
 | _,[]=>some ([],[])
 | ts,x::r=>match viewA c Γ ts.head? x,viewAs c Γ ts.tail r with
   | some (a,l),some (azs,m)=>some (a::azs,l++m)
   | _,_=>none
def osCut (j off es lo hi cap:Nat):T := .os j (if cap=lo then off else off+lo*es) (hi-lo) (some (cap-lo))
noncomputable def absO0 (c:Ctx) (n:Nat) (Γ:Env) (o:Oper):Option (T×List Nat×Option (Nat×List K)) :=
 match o.op with
 | .alloc t=>if priv c o.dst=true then (c.t t).map fun i=>(.own n 0 (i.zero.map exz).length,[],some (n,i.zero.map exz)) else none
 | .box t x=>if priv c o.dst=true then (kndX (ty c.gt Γ x)).map fun l=>(.own n 0 l.length,[],some (n,l)) else none
 | .load t x=>match ty c.gt Γ x,c.t t with
   | .own j off _,some i=>match rowOf Γ.rows j with
     | some l=>(aLoadP i l off).map fun τ=>(τ,[j],none)
     | none=>none
   | _,_=>none
 | .store t x v=>match ty c.gt Γ x,c.t t with
   | .own j off _,some i=>match kndX (ty c.gt Γ v),rowOf Γ.rows j with
     | some ks,some l=>if ks.length=i.size∧off+ks.length≤l.length∧ks.all nw=true then some (.any,[j],some (j,l.take off++ks++l.drop (off+ks.length))) else none
     | _,_=>none
   | _,_=>none
 | .fieldAddr t x f=>match ty c.gt Γ x,c.t t with
   | .own j off m,some i=>match i.flds with
     | some L=>match L[f]? with
       | some (o,sz)=>if sz=0 then none else some (.own j (off+o) m,[],none)
       | none=>none
     | none=>none
   | _,_=>none
 | .indexAddr t x y=>match ty c.gt Γ x,ty c.gt Γ y,c.t t with
   | .own j off m,.int _ lo hi,some i=>match i.arr with
     | some (n,es,_)=>if lo=hi∧0≤lo∧lo<n then some (.own j (off+lo.toNat*es) m,[],none) else none
     | none=>none
   | .os j off len _,.int _ lo hi,some i=>match i.sl,rowOf Γ.rows j with
     | some es,some r=>if lo=hi∧0≤lo∧lo<len then some (.own j (off+lo.toNat*es) r.length,[j],none) else none
     | _,_=>none
   | _,_,_=>none
 | .nilCheck x=>match ty c.gt Γ x with
   | .own j off m=>some (.own j off m,[],none)
   | _=>none
 | .slice t x lw hg none=>match ty c.gt Γ x,c.t t with
   | .own j off _,some i=>match i.arr with
     | some (n,es,_)=>match bnd c Γ lw 0,bnd c Γ hg n with
       | some lo,some hi=>if lo≤hi∧hi≤n∧n≤1000000 then some (osCut j off es lo hi n,[],none) else none
       | _,_=>none
     | none=>none
   | .os j off len cap,some i=>match i.sl,cap with
     | some es,some cap=>match bnd c Γ lw 0,bnd c Γ hg len with
       | some lo,some hi=>if lo≤hi∧hi≤cap then some (osCut j off es lo hi cap,[],none) else none
       | _,_=>none
     | _,_=>none
   | _,_=>none
 | .sliceToArrayPointer t x=>match ty c.gt Γ x,c.t t with
   | .os j off len _,some i=>match i.arr,rowOf Γ.rows j with
     | some (n,_,_),some r=>if n≤len then some (.own j off r.length,[j],none) else none
     | _,_=>none
   | _,_=>none
 | .buildSlice t m ps=>match priv c o.dst,c.t t,partsK c Γ ps.toList with
   | true,some i,some qs=>match i.sl with
     | some es=>if m*es≤100000∧0<es∧0<m then (fillK (fun j=>some (j*es,es)) (List.replicate m (zK true i)).flatten qs).map fun l=>(.os n 0 m (some m),[],some (n,l)) else none
     | none=>none
   | _,_,_=>none
 | .call k=>match k.callee with
   | .builtin b=>match b,k.args.toList,k.argTypes.toList with
     | .len,[x],[t]=>match ty c.gt Γ x,c.t t with
       | .os _ _ len _,some i=>if i.sl.isSome=true then some (.int .i64 len len,[],none) else none
       | _,_=>none
     | _,_,_=>none
   | .value (.func f)=>match viewAs c Γ k.argTypes.toList k.args.toList with
     | some (azs,tc)=>match c.ofam f azs with
       | some (F,none)=>some (F 0,tc,none)
       | some (F,some l)=>some (F n,tc,some (n,l))
       | none=>none
     | none=>none
   | _=>none
 | .unOp .not _ x=>match ty c.gt Γ x with
   | .bt t=>some (.bt (.pick t (.bl false) (.bl true)),[],none)
   | _=>none
 | _=>none
def opT:Op→List TypeId
 | .convert t _ _ => [t]
 | _ => []
noncomputable def absO1 (c:Ctx) (n:Nat) (Γ:Env) (o:Oper):Option (T×List Nat×Option (Nat×List K)) :=
 match o.op with
 | .binOp .. | .unOp .. | .convert .. | .index .. | .slice .. => match viewAs c Γ (opT o.op) o.op.operands.toList with
   | some (azs,tc)=>match c.oof o.op azs with
     | some (F,none)=>some (F 0,tc,none)
     | some (F,some l)=>some (F n,tc,some (n,l))
     | none=>none
   | none=>none
 | _=>none
noncomputable def absO (c:Ctx) (n:Nat) (Γ:Env) (o:Oper):Option (T×List Nat×Option (Nat×List K)):=match c.own with
 | none=>none
 | some _=>match absO1 c n Γ o with
   | some x=>some x
   | none=>absO0 c n Γ o
def upd (f:Nat→Option (List K)) (e:Option (Nat×List K)):Nat→Option (List K):=match e with
 | none=>f
 | some (j,l)=>fun i=>if i=j then some l else f i
section
variable {c:Ctx} {σ:S} {w:World} {a:Act} {Γ:Env}
theorem Go.adopt (hw:WT c.gt σ w) {n:Nat} (hn:σ.pv n=none) {w':World} (hx:Below w.heap.size w w') {b:Nat} (hbs:w.heap.size≤b) {C:Array Value} {t:TypeId} (hrow:w'.heap[b]? = some (.cells C t (0,0))) {l:List K} (h:CP σ C.toList l) :
 ∃ σ',σ'.ad n=b∧Go σ σ' w w'∧WT c.gt σ' w'∧σ'.pv=upd σ.pv (some (n,l)):=by
 have hb:σ b=none:=by
  cases hh:σ b with
  | none=>rfl
  | some x=>have:=hw.lt hh; omega
 have adN : ∀ j l',σ.pv j=some l'→j≠n:=fun j l' hj e=>by rw [e,hn] at hj; cases hj
 have hle:Le σ ⟨σ.f,σ.rho,fun i=>if i=n then b else σ.ad i,upd σ.pv (some (n,l))⟩:=⟨fun _ _ h=>h,fun _ _ _ h=>h,fun j l' hj=>by
  have:=adN j l' hj
  exact ⟨if_neg this,l',(if_neg this).trans hj,rfl⟩⟩
 have hpl : ∀ j l',σ.pv j=some l'→σ.ad j<w.heap.size:=fun j l' hj=>by
  obtain ⟨_,C,t',h1,_⟩:=hw.pvt j l' hj
  exact (Array.getElem?_eq_some_iff.1 h1).1
 have pvc : ∀ j l',upd σ.pv (some (n,l)) j=some l'→(j=n∧l'=l)∨(j≠n∧σ.pv j=some l'):=fun j l' hj=>by
  by_cases e:j=n
  ·subst e
   have:(if j=j then some l else σ.pv j)=some l':=hj
   rw [if_pos rfl] at this
   cases this
   exact .inl ⟨rfl,rfl⟩
  ·have:(if j=n then some l else σ.pv j)=some l':=hj
   rw [if_neg e] at this
   exact .inr ⟨e,this⟩
 have go:Go σ ⟨σ.f,σ.rho,fun i=>if i=n then b else σ.ad i,upd σ.pv (some (n,l))⟩ w w':=by
  refine ⟨fun _ _=>rfl,hx.os,hx.tape,hx.output,hx.size,fun b hb _ _=>hx.block b hb,rfl,hle.own,fun j l' hj hno => ?_⟩
  rcases pvc j l' hj with ⟨rfl,_⟩ | ⟨_,h2⟩
  · show w.heap.size≤(if j=j then b else σ.ad j); rw [if_pos rfl]; exact hbs
  · rw [hno] at h2; cases h2
 refine ⟨_,if_pos rfl,go,⟨hw.old.go go,hw.rho,hw.tab,fun g D hg => ?_,fun b' m l' hb' => ?_,fun j l' hj => ?_,fun i j li lj hi hj hij => ?_,hw.pl⟩,rfl⟩
 ·obtain ⟨⟨l',hl⟩,t',f,hh⟩:=hw.fx g D hg
  exact ⟨⟨l',hl⟩,t',f,(hx.block g (hw.lt hl)).trans hh⟩
 ·obtain ⟨D,t',f,h1,h2,h3⟩:=hw.blk b' m l' hb'
  exact ⟨D,t',f,(hx.block b' (hw.lt hb')).trans h1,h2,h3.mono hle⟩
 ·rcases pvc j l' hj with ⟨rfl,rfl⟩ | ⟨hne,h2⟩
  ·refine ⟨?_,C,t,?_,h.mono hle⟩
   ·show σ.f (if j=j then b else σ.ad j)=none
    rw [if_pos rfl]; exact hb
   ·show w'.heap[if j=j then b else σ.ad j]? = _
    rw [if_pos rfl]; exact hrow
  ·obtain ⟨h0,C,t',h1,h3⟩:=hw.pvt j l' h2
   refine ⟨?_,C,t',?_,h3.mono hle⟩
   ·show σ.f (if j=n then b else σ.ad j)=none
    rw [if_neg hne]; exact h0
   ·show w'.heap[if j=n then b else σ.ad j]? = _
    rw [if_neg hne]; exact (hx.block _ (hpl j l' h2)).trans h1
 ·show (if i=n then b else σ.ad i)≠(if j=n then b else σ.ad j)
  rcases pvc i li hi with ⟨rfl,_⟩ | ⟨hne,h2⟩ <;> rcases pvc j lj hj with ⟨rfl,_⟩ | ⟨hne',h2'⟩
  · exact absurd rfl hij
  · rw [if_pos rfl,if_neg hne']; have:=hpl j lj h2'; omega
  · rw [if_neg hne,if_pos rfl]; have:=hpl i li h2; omega
  · rw [if_neg hne,if_neg hne']; exact hw.inj i j li lj h2 h2' hij
theorem Go.alloc (hw:WT c.gt σ w) {n:Nat} (hn:σ.pv n=none) (C:Array Value) (t:TypeId) {l:List K} (h:CT σ C.toList l) :
 ∃ σ',σ'.ad n=w.heap.size∧Go σ σ' w (w.alloc (.cells C t))∧WT c.gt σ' (w.alloc (.cells C t))∧σ'.pv=upd σ.pv (some (n,l)) :=
 Go.adopt hw hn ((Below.refl _ _).alloc (Nat.le_refl _) _) (Nat.le_refl _) (heap_alloc_last w _) h.cp
theorem Go.box (hw:WT c.gt σ w) {n:Nat} (hn:σ.pv n=none) (t:TypeId) {v:Value} {l:List K} (h:CT σ v.cells.toList l) :
 ∃ σ' w',(Instr.box t v).run c.P w = .ok (.pointer (some ⟨σ'.ad n,0,none⟩)) w'∧Go σ σ' w w'∧WT c.gt σ' w'∧σ'.pv=upd σ.pv (some (n,l)):=by
 obtain ⟨σ',e,h1,h2,h3⟩:=Go.alloc hw hn v.cells t h
 exact ⟨σ',_,by rw [e]; simp [Instr.box,newVar,newRow],h1,h2,h3⟩
theorem Go.put (hw:WT c.gt σ w) {j:Nat} {l l':List K} (hj:σ.pv j=some l) (hll:l'.length=l.length) {C:Array Value} (hC:CP σ C.toList l') :
 Go σ {σ with pv:=upd σ.pv (some (j,l'))} w (w.setRow (σ.ad j) C)∧WT c.gt {σ with pv:=upd σ.pv (some (j,l'))} (w.setRow (σ.ad j) C):=by
 obtain ⟨h0,D,t,h1,h2⟩:=hw.pvt j l hj
 have ho : ∀ k,k≠σ.ad j→(w.setRow (σ.ad j) C).heap[k]? = w.heap[k]? := fun k hk=>by
  unfold World.setRow
  exact (Array.getElem?_modify ..).trans (if_neg (Ne.symm hk))
 have hle:Le σ {σ with pv:=upd σ.pv (some (j,l'))}:=⟨fun _ _ h=>h,fun _ _ _ h=>h,fun i li hi=>by
  refine ⟨rfl,?_⟩
  by_cases e:i=j
  ·subst e
   rw [hj] at hi
   cases hi
   exact ⟨l',if_pos rfl,hll⟩
  · exact ⟨li,(if_neg e).trans hi,rfl⟩⟩
 have pvc : ∀ i li,upd σ.pv (some (j,l')) i=some li→(i=j∧li=l')∨(i≠j∧σ.pv i=some li):=fun i li hi=>by
  by_cases e:i=j
  ·subst e
   have:(if i=i then some l' else σ.pv i)=some li:=hi
   rw [if_pos rfl] at this
   cases this
   exact .inl ⟨rfl,rfl⟩
  ·have:(if i=j then some l' else σ.pv i)=some li:=hi
   rw [if_neg e] at this
   exact .inr ⟨e,this⟩
 have go:Go σ {σ with pv:=upd σ.pv (some (j,l'))} w (w.setRow (σ.ad j) C):=by
  refine ⟨fun _ _=>rfl,rfl,rfl,rfl,by simp [World.setRow],fun b _ _ hp=>ho b (fun e=>hp j l hj e.symm),rfl,hle.own,fun i li hi hn => ?_⟩
  rcases pvc i li hi with ⟨rfl,_⟩ | ⟨_,e⟩
  · rw [hj] at hn; cases hn
  · rw [hn] at e; cases e
 refine ⟨go,⟨hw.old.go go,hw.rho,hw.tab,fun g D hg => ?_,fun b m lb hb => ?_,fun i li hi => ?_,fun i k li lk hi hk hik => ?_,hw.pl⟩⟩
 ·obtain ⟨⟨lg,hl⟩,t',f,hh⟩:=hw.fx g D hg
  exact ⟨⟨lg,hl⟩,t',f,(ho g (fun e=>by rw [e,h0] at hl; cases hl)).trans hh⟩
 ·obtain ⟨E,t',f,k1,k2,k3⟩:=hw.blk b m lb hb
  have hb':σ b=some (m,lb):=hb
  exact ⟨E,t',f,(ho b (fun e=>by rw [e,h0] at hb'; cases hb')).trans k1,k2,k3.mono hle⟩
 ·rcases pvc i li hi with ⟨rfl,rfl⟩ | ⟨hne,e⟩
  · exact ⟨h0,C,t,setRow_heap w _ D C t (0,0) h1,hC.mono hle⟩
  ·obtain ⟨k0,E,t',k1,k2⟩:=hw.pvt i li e
   exact ⟨k0,E,t',(ho _ (hw.inj i j li l e hj hne)).trans k1,k2.mono hle⟩
 ·rcases pvc i li hi with ⟨rfl,_⟩ | ⟨_,e⟩ <;> rcases pvc k lk hk with ⟨rfl,_⟩ | ⟨_,e'⟩
  · exact absurd rfl hik
  · exact hw.inj i k l lk hj e' hik
  · exact hw.inj i k li l e hj hik
  · exact hw.inj i k li lk e e' hik
theorem bnd_ok {lw:Option Operand} (hx : ∀ z,lw=some z→VT σ (a.eval z) (ty c.gt Γ z)) {d k:Nat} (h:bnd c Γ lw d=some k):(lw.map a.eval=none∧k=d) ∨ ∃ q,lw.map a.eval=some (.int q k):=by
 cases lw with
 | none=>simp [bnd] at h; exact .inl ⟨rfl,h.symm⟩
 | some z =>
   have hz:=hx z rfl
   simp only [bnd] at h
   split at h
   ·rename_i q lo hi hp
    rw [hp] at hz
    split at h
    ·rename_i he
     cases h
     obtain ⟨n,hn,g1,g2⟩:=hz
     refine .inr ⟨q,?_⟩
     rw [Option.map_some,hn]
     congr 2
     omega
    · cases h
   · cases h
theorem bounds_run {P:Program} {w:World} (b:Bool) {lw hg:Option Value} {lo h len cap:Nat} (hlo:(lw=none∧lo=0) ∨ ∃ k,lw=some (.int k lo)) (hhi:(hg=none∧h=len) ∨ ∃ k,hg=some (.int k h)) (h1:lo≤h) (h2:h≤cap) :
 (Instr.sliceBounds b len cap lw hg none).run P w = .ok (lo,h,cap) w:=by
 rcases hlo with ⟨rfl,rfl⟩ | ⟨k,rfl⟩ <;> rcases hhi with ⟨rfl,rfl⟩ | ⟨k',rfl⟩ <;>
  simp [Instr.sliceBounds,Instr.sliceBound,asIntOf,h1,h2]
theorem osCut_ok {j off es lo hi cap len:Nat} (h1:lo≤hi) (h2:hi≤cap) (h3:cap≤maxLen) {l:List K} (hl:σ.pv j=some l) :
 VT σ (.slice (some (if cap=lo then ⟨σ.ad j,off,none⟩ else ⟨σ.ad j,off+lo*es,none⟩)) (hi-lo) (cap-lo)) (osCut j off es lo hi cap):=by
 refine ⟨cap-lo,?_,by omega,by omega,fun k hk=>by cases hk; rfl,l,hl⟩
 split <;> rfl
theorem partsA_ok {es:Nat} : ∀ {ks:List K} {l:List P1} {tc:List Nat},partsA Γ es ks=some (l,tc)→(∀ j r,j∈tc→rowOf Γ.rows j=some r→σ.pv j=some r)→ks.length=l.length ∧ ∀ (i:Nat) (p:P1),l[i]? = some p → ∃ κ,ks[i]? = some κ∧P1K σ κ p
 | [],_,_,h,_=>by cases h; exact ⟨rfl,fun i p hi=>by simp at hi⟩
 | κ::ks,l,tc,h,hR=>by
   unfold partsA at h
   split at h
   ·rename_i p l1 ps m h1 h2
    cases h
    obtain ⟨e,ih⟩:=partsA_ok h2 fun j r hj=>hR j r (List.mem_append_right _ hj)
    refine ⟨by simp [e],fun i q hi => ?_⟩
    cases i with
    | succ i=>simpa using ih i q (by simpa using hi)
    | zero =>
      simp only [List.getElem?_cons_zero,Option.some.injEq] at hi
      subst hi
      refine ⟨κ,rfl,?_⟩
      unfold partA at h1
      split at h1
      ·split at h1
       ·rename_i j o len _ r hr
        split at h1
        ·rename_i hb
         cases h1
         exact ⟨j,o,len,r,rfl,by rw [List.length_take,List.length_drop]; omega,hR j r (by simp) hr,by rw [List.length_take,List.length_drop]; congr 1; omega⟩
        · cases h1
       · cases h1
      · cases h1; rfl
   · cases h
theorem viewA_ok {t:Option TypeId} {x:Operand} {y:A} {tc:List Nat} (hx:VT σ (a.eval x) (ty c.gt Γ x)) (h:viewA c Γ t x=some (y,tc)) (hR : ∀ j l,j∈tc→rowOf Γ.rows j=some l→σ.pv j=some l):VA σ (a.eval x) y:=by
 unfold viewA at h
 split at h
 ·rename_i j o len cap hp
  rw [hp] at hx
  obtain ⟨k,e,k1,k2,_,_⟩:=hx
  split at h
  ·split at h
   ·rename_i t _ i hi
    split at h
    ·rename_i es hes
     split at h
     ·rename_i r hr
      split at h
      ·rename_i hb
       split at h
       ·rename_i es' hp'
        split at h
        ·rename_i ps m hps
         cases h
         have he1:es=1:=by
          unfold partsB at hp'
          split at hp'
          ·split at hp'
           · assumption
           · cases hp'
          · cases hp'
         subst he1
         obtain ⟨e1,e2⟩:=partsA_ok hps fun j r hj=>hR j r (List.mem_cons_of_mem _ hj)
         have e3:((r.drop o).take len).length=len:=by rw [List.length_take,List.length_drop]; omega
         exact ⟨j,o,len,k,r,e,k1,k2,by rw [← e1,e3],hR j _ (by simp) hr,e3,e2⟩
        · cases h
       ·cases h
        exact ⟨j,o,len,k,_,e,k1,k2,by rw [List.length_take,List.length_drop]; omega,hR j _ (by simp) hr,by rw [List.length_take,List.length_drop]; congr 1; omega⟩
      · cases h
     · cases h
    · cases h
   · cases h
  · cases h
 · cases h; exact hx
theorem viewAs_ok : ∀ (ts:List TypeId) (xs:List Operand) {ys:List A} {tc:List Nat},(∀ x∈xs,VT σ (a.eval x) (ty c.gt Γ x))→viewAs c Γ ts xs=some (ys,tc)→(∀ j l,j∈tc→rowOf Γ.rows j=some l→σ.pv j=some l)→VAs σ (xs.map a.eval) ys
 | _,[],_,_,_,h,_=>by cases h; exact ⟨rfl,fun i x hi=>by simp at hi⟩
 | ts,x::r,ys,tc,hx,h,hR=>by
   unfold viewAs at h
   split at h
   ·rename_i y l azs m h1 h2
    cases h
    have ih:=viewAs_ok ts.tail r (fun z hz=>hx z (List.mem_cons_of_mem _ hz)) h2 (fun j l' hj=>hR j l' (List.mem_append_right _ hj))
    refine ⟨by simp [ih.1],fun i z hi => ?_⟩
    cases i with
    | zero=>simp at hi; subst hi; exact ⟨_,rfl,viewA_ok (hx x (List.mem_cons_self ..)) h1 (fun j l' hj=>hR j l' (List.mem_append_left _ hj))⟩
    | succ i=>simpa using ih.2 i z (by simpa using hi)
   · cases h
set_option maxHeartbeats 4000000 in
theorem own_ok (hc:c.Ok) (hw:WT c.gt σ w) (o:Oper) {n:Nat} (hx : ∀ x∈o.op.operands,VT σ (a.eval x) (ty c.gt Γ x)) {τ:T} {tc:List Nat} {e:Option (Nat×List K)} (h:absO c n Γ o=some (τ,tc,e))
 (hR : ∀ j l,j∈tc→rowOf Γ.rows j=some l→σ.pv j=some l) (hn : ∀ l,e=some (n,l)→σ.pv n=none) {K:Act→World→Prop} {Q:Exit→Act→World→Prop}
 (hK : ∀ v σ' w',Go σ σ' w w'→WT c.gt σ' w'→VT σ' v τ→σ'.pv=upd σ.pv e→K (a.put o.dst v) w'):o.wp c.P a w K Q:=by
 have val : ∀ {s:Sem Value} {v:Value} {σ':S} {w':World},(execOp a.eval o)=(do pure (.value (← s)):Sem Next)→s.run c.P w = .ok v w'→Go σ σ' w w'→WT c.gt σ' w'→VT σ' v τ→σ'.pv=upd σ.pv e→o.wp c.P a w K Q:=by
  intro s v σ' w' he hr g1 g2 g3 g4
  exact wp_of_value (by rw [he]; exact run_v hr) (hK v σ' w' g1 g2 g3 g4)
 unfold absO at h
 split at h
 · cases h
 rename_i ow how
 split at h
 ·rename_i x h1
  cases h
  have key : ∀ azs tc',viewAs c Γ (opT o.op) o.op.operands.toList=some (azs,tc')→(match c.oof o.op azs with
   | some (F,none)=>some (F 0,tc',none)
   | some (F,some l)=>some (F n,tc',some (n,l))
   | none=>none)=some (τ,tc,e)→o.wp c.P a w K Q:=by
   intro azs tc' hv h
   split at h
   ·rename_i F hτ
    cases h
    obtain ⟨v,w',k1,hb,hans⟩:=hc.oof σ w a o azs _ _ hw (viewAs_ok (a:=a) _ _ (fun y hy=>hx y (by simpa using hy)) hv hR) hτ
    obtain ⟨g2,g1⟩:=hw.low hb
    exact wp_of_value k1 (hK v σ w' g1.go g2 hans rfl)
   ·rename_i F l hτ
    cases h
    obtain ⟨v,w',p1,hb,b,C,t,k1,k2,k3,k4⟩:=hc.oof σ w a o azs _ _ hw (viewAs_ok (a:=a) _ _ (fun y hy=>hx y (by simpa using hy)) hv hR) hτ
    obtain ⟨σ',e1,g1,g2,g3⟩:=Go.adopt hw (hn _ rfl) hb k1 k2 k3
    exact wp_of_value p1 (hK v σ' w' g1 g2 (k4 σ' n (g1.le hw) g1.rho e1 (by rw [g3]; exact if_pos rfl)) g3)
   · cases h
  unfold absO1 at h1
  split at h1 <;> first | cases h1 | (split at h1 <;> first | (rename_i hv; exact key _ _ (by assumption) h1) | cases h1)
 rename_i h1n
 clear h1n
 obtain ⟨dst,op,type,pos,after,guard⟩:=o
 unfold absO0 at h
 cases op <;> dsimp only at h
 case alloc t =>
  split at h
  ·rw [Option.map_eq_some_iff] at h
   obtain ⟨i,hi,h⟩:=h
   cases h
   obtain ⟨it,z,hit,hz,hzk⟩:=(hc.t hi).zx
   have hz':CT σ z.cells.toList (i.zero.map exz):=hzk.mono (Le.nil _)
   obtain ⟨σ',w',h1,h2,h3,h4⟩:=Go.box hw (hn _ rfl) t hz'
   refine val (s:=Instr.alloc t true (.tuple #[])) (w':=w') rfl ?_ h2 h3 ⟨rfl,_,by rw [h4]; exact if_pos rfl,rfl⟩ h4
   simpa [Instr.alloc,zeroValue,run_typeInfo w hit,hz,Instr.box] using h1
  · cases h
 case box t x =>
  split at h
  ·rw [Option.map_eq_some_iff] at h
   obtain ⟨l,hl,h⟩:=h
   cases h
   obtain ⟨σ',w',h1,h2,h3,h4⟩:=Go.box hw (hn _ rfl) t (kndX_ok (hx x (by simp [Op.operands])) hl)
   exact val (s:=Instr.box t (a.eval x)) rfl h1 h2 h3 ⟨rfl,_,by rw [h4]; exact if_pos rfl,rfl⟩ h4
  · cases h
 case load t x =>
  split at h
  ·rename_i j off m i hp hi
   split at h
   ·rename_i l hl
    rw [Option.map_eq_some_iff] at h
    obtain ⟨τ',hτ,h⟩:=h
    cases h
    have h1:=hx x (by simp [Op.operands])
    rw [hp] at h1
    obtain ⟨e1,_⟩:=h1
    obtain ⟨_,C,t',hh,hC⟩:=hw.pvt j l (hR j l (by simp) hl)
    obtain ⟨v,k1,k2⟩:=load_pre hc hi hh hC hτ
    exact val (s:=Instr.loadAt t (a.eval x)) rfl (by rw [e1]; exact k1) (Go1.refl _ _).go hw k2 rfl
   · cases h
  · cases h
 case store t x u =>
  split at h
  ·rename_i j off m i hp hi
   split at h
   ·rename_i ks l hk hl
    split at h
    ·rename_i hh
     cases h
     have h1:=hx x (by simp [Op.operands])
     rw [hp] at h1
     obtain ⟨e1,_⟩:=h1
     have hj:=hR j l (by simp) hl
     obtain ⟨_,C,t',hrow,hC⟩:=hw.pvt j l hj
     have hall : ∀ κ∈ks,nw κ=true:=List.all_eq_true.1 hh.2.2
     obtain ⟨C',k1,k2⟩:=store_pre hc hi hrow hC (kndX_ok (hx u (by simp [Op.operands])) hk) hh.1 hh.2.1 hall
     obtain ⟨g1,g2⟩:=Go.put hw hj (by simp; omega) k2
     refine wp_of_skip (w':=w.setRow (σ.ad j) C') ?_ (hK undef _ _ g1 g2 trivial rfl)
     show ((do Instr.storeAt t (a.eval x) (a.eval u); pure .skip:Sem Next)).run c.P w=_
     rw [Sem.run_bind,e1,k1]
     rfl
    · cases h
   · cases h
  · cases h
 case fieldAddr t x f =>
  split at h
  ·rename_i j off m i hp hi
   split at h
   ·rename_i L hL
    split at h
    ·rename_i o' sz hf
     split at h
     · cases h
     ·rename_i hs
      cases h
      have h1:=hx x (by simp [Op.operands])
      rw [hp] at h1
      obtain ⟨e1,e2⟩:=h1
      exact val (s:=Instr.fieldAt t (a.eval x) f) rfl (by rw [e1]; exact field_run hc hi _ _ hL hf hs) (Go1.refl _ _).go hw ⟨rfl,e2⟩ rfl
    · cases h
   · cases h
  · cases h
 case indexAddr t x y =>
  split at h
  ·rename_i j off m k lo hi' i hp hq hi
   split at h
   ·rename_i n' es r ha
    split at h
    ·rename_i hh
     cases h
     have h1:=hx x (by simp [Op.operands])
     have h2:=hx y (by simp [Op.operands])
     rw [hp] at h1
     rw [hq] at h2
     obtain ⟨e1,e2⟩:=h1
     obtain ⟨z,e3,z1,z2⟩:=h2
     obtain rfl:z=lo:=by omega
     exact val (s:=Instr.indexAt t (a.eval x) (a.eval y)) rfl (by rw [e1,e3]; exact idx_run hc hi _ _ ha hh.2.1 hh.2.2) (Go1.refl _ _).go hw ⟨rfl,e2⟩ rfl
    · cases h
   · cases h
  ·rename_i j off len cap k lo hi' i hp hq hi
   split at h
   ·rename_i es r hes hr
    split at h
    ·rename_i hh
     cases h
     have h1:=hx x (by simp [Op.operands])
     have h2:=hx y (by simp [Op.operands])
     rw [hp] at h1
     rw [hq] at h2
     obtain ⟨k1,e1,l1,l2,_,_⟩:=h1
     obtain ⟨z,e3,z1,z2⟩:=h2
     obtain rfl:z=lo:=by omega
     obtain ⟨et,ie,zz,hu,hie,hse,_⟩:=(hc.t hi).sl es hes
     refine val (s:=Instr.indexAt t (a.eval x) (a.eval y)) (v := .pointer (some ⟨σ.ad j,off+z.toNat*es,none⟩)) rfl ?_ (Go1.refl _ _).go hw ⟨rfl,_,hR j _ (by simp) hr,rfl⟩ rfl
     rw [e1,e3]
     have g0:=hh.2.1
     have g1:=hh.2.2
     simp [Instr.indexAt,run_underlying hu,asIntOf,g0,g1,sizeOf,run_typeInfo w hie,hse,al_add]
    · cases h
   · cases h
  · cases h
 case nilCheck x =>
  split at h
  ·rename_i j off m hp
   cases h
   have h1:=hx x (by simp [Op.operands])
   rw [hp] at h1
   exact wp_of_value (v:=a.eval x) (by simp [execOp,h1.1]) (hK _ σ w (Go1.refl _ _).go hw h1 rfl)
  · cases h
 case slice t x lw hg mx =>
  cases mx with
  | some _=>cases h
  | none =>
  dsimp only at h
  have h1:=hx x (by simp [Op.operands])
  split at h
  ·rename_i j off m i hp hi
   rw [hp] at h1
   split at h
   ·rename_i n' es r ha
    split at h
    ·rename_i lo hi' b1 b2
     split at h
     ·rename_i hh
      cases h
      obtain ⟨e1,l,hl,_⟩:=h1
      obtain ⟨et,ie,de,hu,hie,hes,_,_⟩:=(hc.t hi).arr _ _ _ ha
      have hb:=bounds_run (P:=c.P) (w:=w) false (bnd_ok (fun z hz=>hx z (by subst hz; simp [Op.operands])) b1) (bnd_ok (fun z hz=>hx z (by subst hz; simp [Op.operands])) b2) hh.1 hh.2.1
      refine val (s:=Instr.sliceAt t (a.eval x) (lw.map a.eval) (hg.map a.eval) none) rfl ?_ (Go1.refl _ _).go hw (osCut_ok (es:=es) (off:=off) (len:=0) hh.1 hh.2.1 (by unfold maxLen; omega) hl) rfl
      rw [e1]
      simp [Instr.sliceAt,run_underlying hu,Instr.sureAddr,hb,sizeOf,run_typeInfo w hie,hes,al_add]
     · cases h
    · cases h
   · cases h
  ·rename_i j off len cap i hp hi
   rw [hp] at h1
   split at h
   ·rename_i es cap' hes
    split at h
    ·rename_i lo hi' b1 b2
     split at h
     ·rename_i hh
      cases h
      obtain ⟨k,e1,l1,l2,l3,l,hl⟩:=h1
      obtain rfl:=l3 _ rfl
      obtain ⟨et,ie,zz,hu,hie,hse,_⟩:=(hc.t hi).sl es hes
      have hb:=bounds_run (P:=c.P) (w:=w) true (bnd_ok (fun z hz=>hx z (by subst hz; simp [Op.operands])) b1) (bnd_ok (fun z hz=>hx z (by subst hz; simp [Op.operands])) b2) hh.1 hh.2
      refine val (s:=Instr.sliceAt t (a.eval x) (lw.map a.eval) (hg.map a.eval) none) rfl ?_ (Go1.refl _ _).go hw (osCut_ok (es:=es) (off:=off) (len:=0) hh.1 hh.2 l2 hl) rfl
      rw [e1]
      simp only [Instr.sliceAt,Sem.run_bind,run_underlying hu,Result.andThen_ok,Instr.slice,hb,sizeOf,run_typeInfo w hie,Sem.run_pure,hse]
      split <;> simp [al_add]
     · cases h
    · cases h
   · cases h
  · cases h
 case sliceToArrayPointer t x =>
  split at h
  ·rename_i j off len cap i hp hi
   split at h
   ·rename_i n' es r' r ha hr
    split at h
    ·rename_i hh
     cases h
     have h1:=hx x (by simp [Op.operands])
     rw [hp] at h1
     obtain ⟨k,e1,l1,l2,_,_⟩:=h1
     obtain ⟨et,ie,de,hu,hie,hes,_,_⟩:=(hc.t hi).arr _ _ _ ha
     refine val (s:=Instr.arrayAt t (a.eval x)) (v := .pointer (some ⟨σ.ad j,off,none⟩)) rfl ?_ (Go1.refl _ _).go hw ⟨rfl,_,hR j _ (by simp) hr,rfl⟩ rfl
     rw [e1]
     simp [Instr.arrayAt,run_underlying hu,Nat.not_lt.2 hh]
    · cases h
   · cases h
  · cases h
 case buildSlice t m ps =>
  split at h
  ·rename_i i qs hp hi hq
   split at h
   ·rename_i es hes
    split at h
    ·rename_i hh
     rw [Option.map_eq_some_iff] at h
     obtain ⟨l,hl,h⟩:=h
     cases h
     obtain ⟨C',e',hr,hC⟩:=bs_run (a:=a) (w:=w) hc hi hes (fun p hm=>hx p.2 (by simp [Op.operands]; exact ⟨p.1,by simpa using hm⟩)) hq hh.1 hh.2.1 hh.2.2 true hl
     obtain ⟨σ',e1,g1,g2,g3⟩:=Go.alloc hw (hn _ rfl) C' e' hC
     have:m≤m*es:=Nat.le_mul_of_pos_right m hh.2.1
     exact val (s:=Instr.buildSlice t m (ps.map fun p=>(p.1,a.eval p.2))) rfl hr g1 g2 ⟨m,by rw [e1],Nat.le_refl _,by unfold maxLen; omega,fun k hk=>by cases hk; rfl,l,by rw [g3]; exact if_pos rfl⟩ g3
    · cases h
   · cases h
  · cases h
 case unOp uo ut x =>
  cases uo
  case not =>
   dsimp only at h
   split at h
   ·rename_i t hp
    cases h
    have h1:=hx x (by simp [Op.operands])
    rw [hp] at h1
    obtain ⟨k1,b,hb⟩:=h1
    have hpk:=hc.pick (by rw [how]; simp)
    have hr:σ.rho=c.gt.rho:=hw.rho
    rw [hb,hr] at k1
    refine val (s:=Op.unary .not (a.eval x)) (v := .bool (!b)) rfl (by rw [hb]; rfl) (Go1.refl _ _).go hw ⟨?_,_,rfl⟩ rfl
    rw [hr]
    refine hpk.2 t (.bl false) (.bl true) b (!b) k1 ?_
    cases b
    · exact hpk.1 true
    · exact hpk.1 false
   · cases h
  all_goals cases h
 case call k =>
  obtain ⟨callee,args,argTypes⟩:=k
  dsimp only at h
  split at h
  ·rename_i b
   split at h
   ·rename_i x t h1 h2
    have ha:args = #[x]:=by rw [← Array.toArray_toList (xs:=args),h1]
    have ht:argTypes = #[t]:=by rw [← Array.toArray_toList (xs:=argTypes),h2]
    subst ha ht
    split at h
    ·rename_i j off len cap i hp hi
     split at h
     ·rename_i hsl
      cases h
      have h1:=hx x (by simp [Op.operands,Call.operands])
      rw [hp] at h1
      obtain ⟨k,e1,l1,l2,_,_⟩:=h1
      obtain ⟨n',hn'⟩:=Option.isSome_iff_exists.1 hsl
      obtain ⟨et,_,_,hu,_⟩:=(hc.t hi).sl _ hn'
      refine wp_of_value (v := .int .i64 len) ?_ (hK _ σ w (Go1.refl _ _).go hw ⟨_,rfl,Int.le_refl _,Int.le_refl _⟩ rfl)
      simp [execOp,resolve,invoke,builtin,Builtin.len_,run_underlying hu,e1,goInt]
     · cases h
    · cases h
   · cases h
  ·rename_i f
   split at h
   ·rename_i azs tc' hv
    have hargs : ∀ tc0,tc0=tc'→(∀ j l,j∈tc0→rowOf Γ.rows j=some l→σ.pv j=some l)→VAs σ (args.map a.eval).toList azs:=by
     intro tc0 e0 hR0
     subst e0
     rw [Array.toList_map]
     exact viewAs_ok _ _ (fun x hm=>hx x (by simp [Op.operands,Call.operands]; exact .inr (by simpa using hm))) hv hR0
    have he:(execOp a.eval {dst:=dst,op := .call {callee := .value (.func f),args:=args,argTypes:=argTypes},type:=type,pos:=pos,after:=after,guard:=guard}).run c.P w=(callFunc f (args.map a.eval)).run c.P w:=by
     simp [execOp,resolve,Deferred.ofValue,Act.eval,invoke]
    split at h
    ·rename_i F hF
     cases h
     obtain ⟨hr,hcall⟩:=hc.ofam _ _ _ _ hF σ w (args.map a.eval) hw (hargs _ rfl hR)
     unfold Oper.wp
     rw [he,hr]
     refine Calls.mono hcall (fun x w' hh => ?_)
     obtain ⟨v,rfl,hb,hans⟩:=hh
     obtain ⟨g2,g1⟩:=hw.low hb
     exact hK v σ w' g1.go g2 hans rfl
    ·rename_i F l hF
     cases h
     obtain ⟨hr,hcall⟩:=hc.ofam _ _ _ _ hF σ w (args.map a.eval) hw (hargs _ rfl hR)
     unfold Oper.wp
     rw [he,hr]
     refine Calls.mono hcall (fun x w' hh => ?_)
     obtain ⟨v,rfl,hb,b,C,t,k1,k2,k3,k4⟩:=hh
     obtain ⟨σ',e1,g1,g2,g3⟩:=Go.adopt hw (hn _ rfl) hb k1 k2 k3
     exact hK v σ' w' g1 g2 (k4 σ' n (g1.le hw) g1.rho e1 (by rw [g3]; exact if_pos rfl)) g3
    · cases h
   · cases h
  · cases h
 all_goals cases h
theorem absO_own {c:Ctx} {n:Nat} {Γ:Env} {o:Oper} {x:T×List Nat×Option (Nat×List K)} (h:absO c n Γ o=some x):c.own≠none:=by
 intro e
 unfold absO at h
 rw [e] at h
 cases h
structure Gx (c:Ctx) (σ σ':S) (w w':World):Prop where
 go:Go σ σ' w w'
 one:c.own=none→Go1 σ σ' w w'
theorem Gx.of1 {c:Ctx} {σ σ':S} {w w':World} (h:Go1 σ σ' w w'):Gx c σ σ' w w':=⟨h.go,fun _=>h⟩
theorem Gx.of {c:Ctx} {σ σ':S} {w w':World} (h:Go σ σ' w w') (ho:c.own≠none):Gx c σ σ' w w':=⟨h,fun e=>absurd e ho⟩
theorem Gx.trans {c:Ctx} {σ σ' σ'':S} {w w' w'':World} (h:Gx c σ σ' w w') (h':Gx c σ' σ'' w' w''):Gx c σ σ'' w w'':=⟨h.go.trans h'.go,fun e=>(h.one e).trans (h'.one e)⟩
theorem Gx.drew {c:Ctx} {σ σ':S} {w w':World} (h:Gx c σ σ' w w'):Gx c σ σ' w w'.drew:=⟨h.go.drew,fun e=>(h.one e).drew⟩
theorem absO_eff {c:Ctx} {n:Nat} {Γ:Env} {o:Oper} {τ:T} {tc:List Nat} {j:Nat} {l:List K} (h:absO c n Γ o=some (τ,tc,some (j,l))):j=n∨(j∈tc ∧ ∃ l',rowOf Γ.rows j=some l'):=by
 unfold absO at h
 split at h
 · cases h
 split at h
 ·rename_i x h1
  cases h
  unfold absO1 at h1
  split at h1 <;> first | cases h1 | (split at h1 <;> first | cases h1 | (split at h1 <;> first | (cases h1; done) | (cases h1; exact .inl rfl)))
 rename_i h1n
 clear h1n
 obtain ⟨dst,op,type,pos,after,guard⟩:=o
 unfold absO0 at h
 cases op <;> dsimp only at h
 case store t x u =>
  split at h
  ·split at h
   ·rename_i ks l' hk hl
    split at h
    ·cases h
     exact .inr ⟨by simp,_,hl⟩
    · cases h
   · cases h
  · cases h
 case slice t x lw hg mx=>cases mx <;> dsimp only at h <;> (repeat' (split at h)) <;> cases h
 case call k=>(repeat' (split at h)) <;> first | (cases h; exact .inl rfl) | cases h
 case unOp uo ut x=>cases uo <;> dsimp only at h <;> (repeat' (split at h)) <;> cases h
 all_goals first | (repeat' (split at h)) | skip
 all_goals first | cases h | (rw [Option.map_eq_some_iff] at h; obtain ⟨_,_,h⟩:=h; cases h; first | exact .inl rfl | done)
def setR (r:List (Nat×List K)) (j:Nat) (l:List K):List (Nat×List K):=(j,l)::r.filter fun x => !(Nat.beq x.1 j)
def Env.eff (Γ:Env):Option (Nat×List K)→Env
 | none=>Γ
 | some (j,l)=>⟨Γ.length,Γ.tr,setR Γ.rows j l,max Γ.next (j+1),Γ.pc⟩
noncomputable def effK {α:Type} (Γ:Env) (e:Option (Nat×List K)) (k:Env→α):α:=match e with
 | none=>k Γ
 | some (j,l)=>match Γ with
   | ⟨n,t,r,m,p⟩=>forceR (setR r j l) fun r=>forceN (max m (j+1)) fun m=>k ⟨n,t,r,m,p⟩
theorem effK_eq {α:Type} (Γ:Env) (e:Option (Nat×List K)) (k:Env→α):effK Γ e k=k (Γ.eff e):=by
 cases e with
 | none=>rfl
 | some x=>simp only [effK,forceR_eq,forceN_eq]; rfl
def Rw (f:Nat→Option (List K)) (Γ:Env):Prop:=(∀ x∈Γ.rows,f x.1=some x.2) ∧ ∀ j,Γ.next≤j→f j=none
theorem Rw.eff {f:Nat→Option (List K)} {Γ:Env} (h:Rw f Γ) (e:Option (Nat×List K)):Rw (upd f e) (Γ.eff e):=by
 cases e with
 | none=>exact h
 | some e =>
   obtain ⟨j,l⟩:=e
   refine ⟨fun x hx => ?_,fun i hi => ?_⟩
   ·show (if x.1=j then some l else f x.1)=some x.2
    rcases List.mem_cons.1 hx with rfl | hx
    · exact if_pos rfl
    ·obtain ⟨h1,h2⟩:=List.mem_filter.1 hx
     have hne:x.1≠j:=fun e=>by rw [e] at h2; simp at h2
     rw [if_neg hne]
     exact h.1 x h1
   ·have hi':max Γ.next (j+1)≤i:=hi
    show (if i=j then some l else f i)=none
    rw [if_neg (by omega)]
    exact h.2 i (by omega)
theorem Rw.row {f:Nat→Option (List K)} {Γ:Env} (h:Rw f Γ) {j:Nat} {l:List K} (hj:rowOf Γ.rows j=some l):f j=some l:=h.1 _ (rowOf_mem hj)
theorem Rw.lt {f:Nat→Option (List K)} {Γ:Env} (h:Rw f Γ) {j:Nat} {l:List K} (hj:f j=some l):j<Γ.next:=by
 rcases Nat.lt_or_ge j Γ.next with h' | h'
 · exact h'
 · rw [h.2 j h'] at hj; cases hj
theorem Typed.rw {σ:S} {a:Act} {Γ:Env} (h:Typed σ a Γ):Rw σ.pv Γ:=h.2.2.2
theorem Typed.eff {σ σ':S} {a:Act} {Γ:Env} (h:Typed σ a Γ) (hle:Le σ σ') {e:Option (Nat×List K)} (hp:σ'.pv=upd σ.pv e):Typed σ' a (Γ.eff e):=by
 have hr:=h.rw.eff e
 rw [← hp] at hr
 cases e with
 | none=>exact ⟨h.1,⟨h.2.1.1,fun x hx=>hle.rho _ _ _ (h.2.1.2 x hx)⟩,fun t τ ht=>(h.2.2.1 t τ ht).mono hle,hr⟩
 | some e=>exact ⟨h.1,⟨h.2.1.1,fun x hx=>hle.rho _ _ _ (h.2.1.2 x hx)⟩,fun t τ ht=>(h.2.2.1 t τ ht).mono hle,hr⟩
end
end Ab
end Go.Proofs.YtfodadedkilgdaaGreatDoor

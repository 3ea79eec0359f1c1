/- A part of the proof. Plain; no condition. -/
import Derived.Test.YtfodadedkilgdaaGreatDoorP11
namespace Go.Proofs.YtfodadedkilgdaaGreatDoor
set_option linter.unusedVariables false
set_option linter.unusedSimpArgs false
open Go.RowKit Mem
namespace Rn
variable {c:Cx} {σ σ':Sg} {h h1 h' h'':H} {w w':World}
abbrev Me:Type:=Nat×List (List V)×Nat
def fMe {α:Type} (l:List Me) (k:List Me→α):α:=match l with
 | []=>k []
 | m::r=>fMe r fun r=>k (m::r)
theorem fMe_eq {α:Type} : ∀ (l:List Me) (k:List Me→α),fMe l k=k l
 | [],_=>rfl
 | m::r,k=>by simp only [fMe,fMe_eq r]
def amOf (m:Nat) (me:List Me):List (Nat×List Me)→List Me
 | []=>me
 | (i,l)::r=>match m.testBit i with
   | true=>l++amOf m me r
   | false=>amOf m me r
theorem amOf_mem {m:Nat} {me:List Me} {x:Me} : ∀ {ac:List (Nat×List Me)},x∈amOf m me ac→x∈me ∨ ∃ p∈ac,m.testBit p.1=true∧x∈p.2
 | [],h => .inl h
 | (i,l)::r,h=>by
   unfold amOf at h
   split at h
   ·rename_i hb
    rcases List.mem_append.1 h with h | h
    · exact .inr ⟨(i,l),List.mem_cons_self ..,hb,h⟩
    · exact (amOf_mem h).imp id fun ⟨p,h1,h2⟩=>⟨p,List.mem_cons_of_mem _ h1,h2⟩
   · exact (amOf_mem h).imp id fun ⟨p,h1,h2⟩=>⟨p,List.mem_cons_of_mem _ h1,h2⟩
def acU (j:Nat) (ac:List (Nat×List Me)):List Me→List (Nat×List Me)
 | []=>ac
 | m::r=>(j,m::r)::ac
theorem acU_mem {j:Nat} {ac:List (Nat×List Me)} {nu:List Me} {p:Nat×List Me} (hp:p∈acU j ac nu):p∈ac∨p=(j,nu):=by
 unfold acU at hp
 split at hp
 · exact .inl hp
 ·rcases List.mem_cons.1 hp with rfl | hp
  · exact .inr rfl
  · exact .inl hp
noncomputable def seqD (P:Program) (F:Fs) (ops:List Oper) (M:List Nat):List Oper→Nat→List (Nat×Nat×Nat)→List (Nat×List Me)→Tm→H→Option (List Ef×Tm×H)
 | [],_,_,_,tm,h=>some ([],tm,h)
 | o::l,j,rg,ac,tm,⟨ht,hn,ho,hm,hw,me⟩=>fMe (amOf (M.getD j 0) me ac) fun me'=>match effA P F ops (M.getD j 0) rg tm ⟨ht,hn,ho,hm,hw,me'⟩ o with
   | none=>none
   | some (⟨a,b,⟨h0,n0,o0,m0,w0,u0⟩,⟨h1,n1,o1,m1,w1,u1⟩,r,nm,ld⟩,⟨ht',hn',ho',hm',hw',_⟩)=>putTK tm o.dst r fun tm'=>fMe (u1.take (u1.length-u0.length)) fun nu=>match seqD P F ops M l (j+1) (match Nat.beq n0 n1 with
      | true=>rg
      | false=>(j,n0,n1)::rg) (acU j ac nu) tm' ⟨ht',hn',ho',hm',hw',me⟩ with
     | none=>none
     | some (es,x)=>some (⟨a,b,⟨h0,n0,o0,m0,w0,u0⟩,⟨h1,n1,o1,m1,w1,u1⟩,r,nm,ld⟩::es,x)
def vr (es:List Ef) (i t:Nat):Option R:=(es[i]?).map (·.r)
def wE (es:List Ef) (i b:Nat):Bool:=match es[i]? with
 | some e=>e.w b
 | none=>false
noncomputable def vE (es:List Ef) (i b:Nat):Option B:=(es[i]?).bind (·.h1.at b)
theorem putT_at {tm:Tm} {d:Option Tmp} {r:R} (hd : ∀ t,d=some t→t+1<2^dp) (t:Nat):Tr.at dp (putT tm d r) t=match (match d with | some d=>Nat.beq d t | none=>false) with
 | true=>some r
 | false=>Tr.at dp tm t:=by
 cases d with
 | none=>rfl
 | some d =>
   show Tr.at dp (Tr.to dp tm d (some r)) t=match Nat.beq d t with
    | true=>some r
    | false=>Tr.at dp tm t
   by_cases h:d=t
   ·subst h
    rw [Tr.at_to _ _ _ _ (hd d rfl)]
    simp
   ·rw [Tr.at_to_ne _ _ _ _ _ h]
    cases hb:Nat.beq d t with
    | true=>exact absurd (Nat.eq_of_beq_eq_true hb) h
    | false=>rfl
structure At (P:Program) (F:Fs) (ops l:List Oper) (M:List Nat) (j0:Nat) (ac:List (Nat×List Me)) (tm:Tm) (h:H) (es:List Ef) (hE:H) (k:Nat) (o:Oper) (e:Ef):Prop where
 here:es[k]? = some e
 ok : ∃ h',EfOk P F ops e.tm e.hb o e h'
 lt:e.hb.Ok
 n0:h.nx≤e.h0.nx∧h.ob≤e.h0.ob
 n1:e.h1.nx≤hE.nx∧e.h1.ob≤hE.ob
 tm : ∀ t,Tr.at dp e.tm t=cur (writes l) (vr es) (Tr.at dp tm) (fun _=>true) k t
 hb : ∀ b,e.hb.at b=cur (wE es) (vE es) h.at (fun _=>true) k b
 ord : ∀ (i:Nat) (f:Ef),i<k→es[i]? = some f→f.h1.nx≤e.h0.nx∧f.h1.ob≤e.h0.ob
 me : ∀ m∈e.h0.me,m∈h.me∨(∃ p∈ac,(M.getD (j0+k) 0).testBit p.1=true∧m∈p.2) ∨ ∃ i f,es[i]? = some f∧(M.getD (j0+k) 0).testBit (j0+i)=true∧m∈f.h1.me
theorem writes_cons (o:Oper) (l:List Oper) (i:Nat):writes (o::l) (i+1)=writes l i:=by
 funext t; simp [writes,dst]
set_option maxHeartbeats 2000000 in
theorem seqD_at {F:Fs} (hF:FOk c F) {ops:List Oper} {M:List Nat} : ∀ {l:List Oper} {j:Nat} {rg:List (Nat×Nat×Nat)} {ac:List (Nat×List Me)} {tm tmE:Tm} {h hE:H} {es:List Ef},seqD c.P F ops M l j rg ac tm h=some (es,tmE,hE)→h.Ok→(∀ j d,dst l j=some d→d+1<2^dp) →
 es.length=l.length∧Ev h hE∧(∀ k o,l[k]? = some o → ∃ e,At c.P F ops l M j ac tm h es hE k o e)∧(∀ t,Tr.at dp tmE t=cur (writes l) (vr es) (Tr.at dp tm) (fun _=>true) l.length t)∧(∀ b,hE.at b=cur (wE es) (vE es) h.at (fun _=>true) l.length b)∧hE.me=h.me
 | [],j,rg,ac,tm,tmE,h,hE,es,he,ok,hd=>by
   cases he
   exact ⟨rfl,Ev.refl _,fun k o hk=>(by simp at hk),fun _=>rfl,fun _=>rfl,rfl⟩
 | o::l,j,rg,ac,tm,tmE,⟨ht,hn,ho,hm,hw,me⟩,hE,es,he,ok,hd=>by
   unfold seqD at he
   rw [fMe_eq] at he
   split at he
   · cases he
   ·rename_i a b h0 n0 o0 m0 w0 u0 h1 n1 o1 m1 w1 u1 r nm ld ht' hn' ho' hm' hw' me1 heff
    rw [putTK_eq,fMe_eq] at he
    generalize hrg:(match Nat.beq n0 n1 with
     | true=>rg
     | false=>(j,n0,n1)::rg)=rg' at he
    have hacm : ∀ p∈acU j ac (u1.take (u1.length-u0.length)),p∈ac∨(p.1=j ∧ ∀ m∈p.2,m∈u1):=by
     intro p hp
     rcases acU_mem hp with h1 | rfl
     · exact .inl h1
     · exact .inr ⟨rfl,fun m hm=>List.mem_of_mem_take hm⟩
    split at he
    · cases he
    ·rename_i es' x hs
     cases he
     obtain ⟨e,hee⟩ : ∃ e:Ef,e=⟨a,b,⟨h0,n0,o0,m0,w0,u0⟩,⟨h1,n1,o1,m1,w1,u1⟩,r,nm,ld⟩:=⟨_,rfl⟩
     rw [← hee] at heff ⊢
     have hr:r=e.r:=by rw [hee]
     rw [hr] at hs
     have okm:H.Ok ⟨ht,hn,ho,hm,hw,amOf (M.getD j 0) me ac⟩:=⟨ok.lt,ok.mr⟩
     have eo:=effA_ok hF heff okm
     have hat : ∀ b,H.at ⟨ht,hn,ho,hm,hw,amOf (M.getD j 0) me ac⟩ b=H.at ⟨ht,hn,ho,hm,hw,me⟩ b:=fun b=>by unfold H.at; rfl
     have hu : ∀ m∈u1,m∈e.h1.me:=fun m hm=>by rw [hee]; exact hm
     have hd0 : ∀ t,o.dst=some t→t+1<2^dp:=fun t ht=>hd 0 t ht
     obtain ⟨q1,q2,q3,q4,q5,q6⟩:=seqD_at hF hs ⟨(eo.all.ok okm).lt,(eo.all.ok okm).mr⟩ (fun j d hj=>hd (j+1) d (by simpa [dst] using hj))
     have tm0 : ∀ t,Tr.at dp (putT tm o.dst e.r) t=match writes (o::l) 0 t with
      | true=>vr (e::es') 0 t
      | false=>Tr.at dp tm t:=fun t=>putT_at hd0 t
     have hb0 : ∀ b,H.at ⟨ht',hn',ho',hm',hw',me⟩ b=match wE (e::es') 0 b with
      | true=>vE (e::es') 0 b
      | false=>H.at ⟨ht,hn,ho,hm,hw,me⟩ b:=fun b=>eo.next b
     have stm : ∀ k t,cur (writes l) (vr es') (Tr.at dp (putT tm o.dst e.r)) (fun _=>true) k t=cur (writes (o::l)) (vr (e::es')) (Tr.at dp tm) (fun _=>true) (k+1) t:=fun k t=>by
      rw [cur_cons]
      exact cur_congr (tm0 t) k fun i _=>⟨by rw [writes_cons],rfl⟩
     have shb : ∀ k b,cur (wE es') (vE es') (H.at ⟨ht',hn',ho',hm',hw',me⟩) (fun _=>true) k b=cur (wE (e::es')) (vE (e::es')) (H.at ⟨ht,hn,ho,hm,hw,me⟩) (fun _=>true) (k+1) b:=fun k b=>by
      rw [cur_cons]
      exact cur_congr (hb0 b) k fun i _=>⟨rfl,rfl⟩
     have ev0:Ev ⟨ht,hn,ho,hm,hw,me⟩ ⟨ht',hn',ho',hm',hw',me⟩:=⟨eo.all.nx,eo.all.ob,eo.all.mr,eo.all.wr,eo.all.ch,eo.all.nw⟩
     refine ⟨by rw [List.length_cons,List.length_cons,q1],ev0.trans q2,fun k o' hk => ?_,fun t=>(by rw [q4,stm]; rfl),fun b=>(by rw [q5,shb]; rfl),q6⟩
     cases k with
     | zero =>
       have:o=o':=by simpa using hk
       subst this
       refine ⟨e,rfl,⟨⟨ht',hn',ho',hm',hw',me1⟩,?_⟩,by rw [eo.he]; exact okm,⟨by rw [eo.nx]; exact Nat.le_refl _,by rw [eo.ob]; exact Nat.le_refl _⟩,⟨by rw [← eo.nx']; exact q2.nx,by rw [← eo.ob']; exact q2.ob⟩,fun t=>by rw [eo.te]; exact rfl,fun b=>(by rw [eo.he,hat]; exact rfl),fun i f hi=>(by omega),fun m hm=>by
        rw [eo.me0] at hm
        rcases amOf_mem hm with h1 | h1
        · exact .inl h1
        · exact .inr (.inl h1)⟩
       rw [eo.te,eo.he]
       exact eo
     | succ k =>
       obtain ⟨e',q⟩:=q3 k o' (by simpa using hk)
       refine ⟨e',by simpa using q.here,q.ok,q.lt,⟨Nat.le_trans eo.all.nx q.n0.1,Nat.le_trans eo.all.ob q.n0.2⟩,q.n1,fun t=>by rw [q.tm,stm],fun b=>(by rw [q.hb,shb]),fun i f hi hf => ?_,fun m hm=>by
        have e1:j+(k+1)=j+1+k:=by omega
        rw [e1]
        rcases q.me m hm with h1 | ⟨p,h1,h2,h3⟩ | ⟨i,f,h1,h2,h3⟩
        · exact .inl h1
        ·rcases hacm p h1 with h4 | ⟨h4,h5⟩
         · exact .inr (.inl ⟨p,h4,h2,h3⟩)
         · exact .inr (.inr ⟨0,e,rfl,by rw [h4] at h2; exact h2,hu m (h5 m h3)⟩)
        · exact .inr (.inr ⟨i+1,f,by simpa using h1,by rw [show j+(i+1)=j+1+i by omega]; exact h2,h3⟩)⟩
       cases i with
       | zero =>
         have:e=f:=by simpa using hf
         subst this
         rw [← eo.nx',← eo.ob']
         exact q.n0
       | succ i=>exact q.ord i f (by omega) (by simpa using hf)
noncomputable def ldB (P:Program) (f e:Ef) (b:Nat):Bool:=match e.ld with
 | some (t,b',d)=>match Nat.beq b' b,loadA P f.h1 t b' d with
   | true,some r=>rS r e.r
   | _,_=>false
 | none=>false
noncomputable def pairB (P:Program) (late:Bool) (f e:Ef):Bool:=match e.nm with
 | some l=>l.all fun b => !f.w b || (late && ldB P f e b)
 | none=>(f.h1.wr++upto f.h0.nx f.h1.nx).all fun b=>match e.h0.at b with
   | none=>true
   | some _=>false
noncomputable def sepB (P:Program) (M:List Nat) (es:List Ef):Bool:=es.zipIdx.all fun (e,j)=>es.zipIdx.all fun (f,i) => !(Nat.blt i j) || ((M.getD j 0).testBit i ||
 (pairB P false f e && pairB P true e f && (f.h1.wr.all fun b => !e.w b) && (e.h1.wr.all fun b => !f.w b)))
def LdOk (P:Program) (f e:Ef) (b:Nat):Prop := ∃ t d,e.ld=some (t,b,d)∧loadA P f.h1 t b d=some e.r
def Apart (f e:Ef):Prop := ∀ b x,f.w b=true→e.h0.at b=some x→False
structure Sep (P:Program) (l:List Oper) (es:List Ef):Prop where
 lt : ∀ (i j:Nat) (f e:Ef),i<j→es[i]? = some f→es[j]? = some e→Rc.Anc .any l.toArray i j∨(Apart f e∧(∀ b x,e.w b=true→f.h0.at b=some x→LdOk P e f b)∧(∀ b,f.w b=true→e.w b=true→False))
theorem pairB_ok {P:Program} {late:Bool} {f e:Ef} (hn : ∀ l,e.nm=some l → ∀ b x,e.h0.at b=some x→b∈l) (h:pairB P late f e=true) : ∀ b x,f.w b=true→e.h0.at b=some x→late=true∧LdOk P f e b:=by
 intro b x hw hx
 unfold pairB at h
 split at h
 ·rename_i l hl
  have:=List.all_eq_true.1 h b (hn l hl b x hx)
  rw [hw,Bool.not_true,Bool.false_or,Bool.and_eq_true] at this
  refine ⟨this.1,?_⟩
  have h3:=this.2
  unfold ldB at h3
  split at h3
  ·rename_i t b' d hld
   split at h3
   ·rename_i r hb hlo
    have hb:=Nat.eq_of_beq_eq_true hb
    subst hb
    exact ⟨t,d,hld,by rw [hlo,rS_ok h3]⟩
   · cases h3
  · cases h3
 ·have hm:b∈f.h1.wr++upto f.h0.nx f.h1.nx:=by
   rcases Ef.w_ok.1 hw with h1 | h1
   · exact List.mem_append_left _ h1
   · exact List.mem_append_right _ (upto_mem.2 h1)
  have:=List.all_eq_true.1 h b hm
  rw [hx] at this
  cases this
theorem sepB_ok {P:Program} {l:List Oper} {es:List Ef} (hn : ∀ (k:Nat) (e:Ef),es[k]? = some e → ∀ l,e.nm=some l → ∀ b x,e.h0.at b=some x→b∈l) (ho : ∀ (i j:Nat) (f e:Ef),i<j→es[i]? = some f→es[j]? = some e→f.h1.nx≤e.h0.nx) (h:sepB P (Rc.masks .any l []) es=true):Sep P l es:=by
 have hM:=masks_ok l
 generalize Rc.masks .any l []=M at *
 refine ⟨fun i j f e hij hf he => ?_⟩
 unfold sepB at h
 have h1:=List.all_eq_true.1 h (e,j) (by rw [List.mk_mem_zipIdx_iff_getElem?]; exact he)
 have h2:=List.all_eq_true.1 h1 (f,i) (by rw [List.mk_mem_zipIdx_iff_getElem?]; exact hf)
 have hb:Nat.blt i j=true:=Nat.ble_eq_true_of_le hij
 dsimp only at h2
 rw [hb,Bool.not_true,Bool.false_or,Bool.or_eq_true] at h2
 rcases h2 with h2 | h2
 · exact .inl (hM j i h2)
 ·simp only [Bool.and_eq_true] at h2
  obtain ⟨⟨⟨h3,h4⟩,h5⟩,h6⟩:=h2
  have both : ∀ b,f.w b=true→e.w b=true→False:=by
   intro b hfb heb
   rcases Ef.w_ok.1 hfb with k1 | k1
   ·have:=List.all_eq_true.1 h5 b k1
    rw [heb] at this
    cases this
   ·rcases Ef.w_ok.1 heb with k2 | k2
    ·have:=List.all_eq_true.1 h6 b k2
     rw [hfb] at this
     cases this
    ·have:=ho i j f e hij hf he
     omega
  exact .inr ⟨fun b x k1 k2=>(by have:=(pairB_ok (hn j e he) h3 b x k1 k2).1; cases this),fun b x k1 k2=>(pairB_ok (hn i f hf) h4 b x k1 k2).2,both⟩
def memos (es:List Ef) (me:List Me):List Me:=es.foldr (fun e acc=>e.h1.me.take (e.h1.me.length-e.h0.me.length)++acc) me
theorem memos_mem {me:List Me} {m:Me} {es:List Ef} (h:m∈memos es me):m∈me ∨ ∃ e∈es,m∈e.h1.me:=by
 unfold memos at h
 induction es with
 | nil=>exact .inl h
 | cons e es ih =>
   rcases List.mem_append.1 h with h | h
   · exact .inr ⟨e,List.mem_cons_self ..,List.mem_of_mem_take h⟩
   · exact (ih h).imp id fun ⟨e',h1,h2⟩=>⟨e',List.mem_cons_of_mem _ h1,h2⟩
noncomputable def drawR (P:Program) (F:Fs) (l:List Oper) (tm:Tm) (h:H):Option (Tm×H):=match orderB l (Rc.masks .any l []) with
 | false=>none
 | true=>match seqD P F l (Rc.masks .any l []) l 0 [] [] tm h with
   | none=>none
   | some (es,tm',h')=>match sepB P (Rc.masks .any l []) es with
     | true=>match h' with
       | ⟨t,nx,ob,mr,wr,me⟩=>fMe (memos es me) fun me=>some (tm',⟨t,nx,ob,mr,wr,me⟩)
     | false=>none
structure Inv (c:Cx) (l:List Oper) (es:List Ef) (tm0:Tm) (h0:H) (σ0:Sg) (a0:Act) (w0:World) (listed:Array Bool) (a:Act) (w:World) (σ:Sg):Prop where
 hs:Hf c σ (cur (wE es) (vE es) h0.at (fun i=>listed.getD i false) l.length) h0.me w
 mo : ∀ (j:Nat) (e:Ef),listed.getD j false=true→es[j]? = some e → ∀ m∈e.h1.me,MeOk c σ m
 sl : ∀ t r,cur (writes l) (vr es) (Tr.at dp tm0) (fun i=>listed.getD i false) l.length t=some r→t<a.tmps.size∧a.tmps.getD t undef=r.val σ∧r.df σ
 le:Le σ0 σ
 un : ∀ (j:Nat) (e:Ef),listed.getD j false=false→es[j]? = some e→Fr σ e.h0 e.h1
 sb : ∀ n,(∀ (j:Nat) (e:Ef),listed.getD j false=true→es[j]? = some e → ¬ (e.h0.nx≤n∧n<e.h1.nx))→σ.β n=σ0.β n
 so : ∀ n,(∀ (j:Nat) (e:Ef),listed.getD j false=true→es[j]? = some e → ¬ (e.h0.ob≤n∧n<e.h1.ob))→σ.ρ n=σ0.ρ n∧σ.ζ n=σ0.ζ n
 kp:Kp (fun k => ∃ b x,h0.at b=some x∧σ0.bl b=k) w0 w
 ad : ∀ b x,cur (wE es) (vE es) h0.at (fun i=>listed.getD i false) l.length b=some x→w0.heap.size≤σ.bl b ∨ ∃ b0 x0,h0.at b0=some x0∧σ.bl b=σ0.bl b0
 head:HeadInv .any l.toArray l.length listed
 size:a.tmps.size=a0.tmps.size
 defers:a.defers = []
theorem mem_slots {o:Oper} {t:Nat} (h:Operand.tmp t∈o.op.operands):t∈slots o:=by
 unfold slots
 rw [List.mem_filterMap]
 exact ⟨.tmp t,by simpa using h,rfl⟩
theorem dst_of {l:List Oper} {j:Nat} {o:Oper} (h:l[j]? = some o):dst l j=o.dst:=by unfold dst; rw [h]; rfl
theorem inv_step {F:Fs} (hF:FOk c F) {l:List Oper} {es:List Ef} {tm0:Tm} {h0 hE:H} {σ0:Sg} {a0:Act} {w0:World} (ho:Ord l) (hsep:Sep c.P l es) (hat : ∀ k o,l[k]? = some o → ∃ e,At c.P F l l (Rc.masks .any l []) 0 [] tm0 h0 es hE k o e) (hlen:es.length=l.length) (hd:dstsB a0.tmps.size l=true)
 {listed:Array Bool} {a:Act} {w:World} (inv:Inv c l es tm0 h0 σ0 a0 w0 listed a w σ) {j:Nat} {o:Oper} (hoj:l[j]? = some o) (hj:j∈Region.ready .any l.toArray listed) :
 (Region.wanted o (yielded l.toArray a.tmps)=true → ∀ (next:Act→World→Prop) (Q:Exit→Act→World→Prop),(∀ σ' w' v,Inv c l es tm0 h0 σ0 a0 w0 (listed.setIfInBounds j true) (a.put o.dst v) w' σ'→next (a.put o.dst v) w')→o.wp c.P a w next Q) ∧
 (Region.wanted o (yielded l.toArray a.tmps)=false→Inv c l es tm0 h0 σ0 a0 w0 (listed.setIfInBounds j true) (a.put o.dst undef) w σ):=by
 obtain ⟨e,ea⟩:=hat j o hoj
 obtain ⟨hn,eo⟩:=ea.ok
 have hjl:j<l.length:=(List.getElem?_eq_some_iff.1 hoj).1
 have hunf:=getD_both (mem_ready.1 hj).1
 have hsz:j<listed.size:=by rw [inv.head.size]; simpa using hjl
 have hother : ∀ i,i≠j→(listed.setIfInBounds j true).getD i false=listed.getD i false:=fun i hi=>getD_set_ne false (Ne.symm hi)
 have hself:(listed.setIfInBounds j true).getD j false=true:=by simp [hsz]
 have efs : ∀ i,i<l.length → ∃ f,es[i]? = some f:=fun i hi=>⟨es[i],List.getElem?_eq_getElem (by omega)⟩
 have late : ∀ i f,j<i→es[i]? = some f→listed.getD i false=true→(∀ b x,f.w b=true→e.h0.at b=some x→LdOk c.P f e b)∧(∀ b,f.w b=true→e.w b=true→False):=by
  intro i f hji hf hl
  rcases hsep.lt j i e f hji ea.here hf with hA | ⟨_,h2,h3⟩
  ·have:=hA.inL inv.head hl
   rw [hunf] at this
   cases this
  · exact ⟨h2,fun b k1 k2=>h3 b k2 k1⟩
 have early : ∀ i f,i<j→es[i]? = some f→listed.getD i false=false→Apart f e∧(∀ b,f.w b=true→e.w b=true→False):=by
  intro i f hij hf hl
  rcases hsep.lt i j f e hij hf ea.here with hA | ⟨h1,_,h3⟩
  ·have:=hA.ready inv.head hj
   rw [hl] at this
   cases this
  · exact ⟨h1,h3⟩
 have view0 : ∀ b x,e.h0.at b=some x→cur (wE es) (vE es) h0.at (fun i=>listed.getD i false) j b=some x:=by
  intro b x hx
  rw [← eo.sub b x hx,ea.hb]
  refine cur_same j fun i hi hw => ?_
  obtain ⟨f,hf⟩:=efs i (by omega)
  unfold wE at hw
  rw [hf] at hw
  cases hl:listed.getD i false with
  | true=>rfl
  | false=>exact ((early i f hi hf hl).1 b x hw hx).elim
 have slot : ∀ t r,t∈slots o→Tr.at dp e.tm t=some r→t<a.tmps.size∧a.tmps.getD t undef=r.val σ∧r.df σ:=by
  intro t r hts hr
  refine inv.sl t r ?_
  rw [← hr,ea.tm]
  rw [cur_skip (m:=j) l.length (Nat.le_of_lt hjl) (fun i h1 h2 hw => ?_)]
  ·refine cur_same j fun i hi hw => ?_
   have hdi:=writes_ok.1 hw
   rcases ho.look j o t hoj hts i hdi with e1 | ⟨_,hA⟩ | ⟨hlt,_⟩
   · omega
   · exact hA.ready inv.head hj
   · omega
  ·have hdi:=writes_ok.1 hw
   rcases ho.look j o t hoj hts i hdi with e1 | ⟨hlt,_⟩ | ⟨_,hA⟩
   · subst e1; exact hunf
   · omega
   ·cases hl:listed.getD i false with
    | false=>rfl
    | true =>
      have:=hA.inL inv.head hl
      rw [hunf] at this
      cases this
 have want : ∀ b,wantR l e.tm o=some b→Region.wanted o (yielded l.toArray a.tmps)=b:=by
  intro b hb
  refine want_ok (σ:=σ) (fun g b' hg d r hdg hr => ?_) hb
  obtain ⟨hgj,hA⟩:=ho.guard j o g b' hoj hg
  have hlg:=hA.ready inv.head hj
  have hdg':dst l g=some d:=hdg
  have:=inv.sl d r (by
   rw [← hr,ea.tm,cur_skip (m:=j) l.length (Nat.le_of_lt hjl) (fun i h1 h2 hw => ?_)]
   ·refine cur_same j fun i hi hw => ?_
    have hdi:=writes_ok.1 hw
    by_cases hig:i=g
    · subst hig; exact hlg
    · exact absurd hdi (ho.dne g i (Ne.symm hig) d hdg')
   ·have hdi:=writes_ok.1 hw
    by_cases hig:i=g
    · subst hig; omega
    · exact absurd hdi (ho.dne g i (Ne.symm hig) d hdg'))
  exact ⟨this.1,this.2.1⟩
 have dlt : ∀ t,o.dst=some t→t<a.tmps.size:=by
  intro t hto
  have:=List.all_eq_true.1 hd o (List.mem_of_getElem? hoj)
  rw [hto] at this
  rw [inv.size]
  exact blt_ok this
 have hfr:Fr σ e.h0 e.h1:=inv.un j e hunf ea.here
 have go : ∀ (k0 k1:H),(∀ b x,k0.at b=some x→cur (wE es) (vE es) h0.at (fun i=>listed.getD i false) l.length b=some x)→(∀ b,e.w b=true→e.h1.at b=k1.at b)→(∀ b y,k0.at b=some y→e.w b=false→k1.at b=some y)→k0.nx=e.h0.nx→k0.ob=e.h0.ob→k1.nx=e.h1.nx→k1.ob=e.h1.ob→k1.me=e.h1.me →
  ∀ (σ':Sg) (w':World) (v:Value),Hs c σ' k1 w'→St σ σ' k0 k1 w w'→v=e.r.val σ'→e.r.df σ'→Inv c l es tm0 h0 σ0 a0 w0 (listed.setIfInBounds j true) (a.put o.dst v) w' σ':=by
  intro k0 k1 view kw kc n0 o0 n1 o1 km σ' w' v g1 g2 g3 g4
  have next : ∀ b,cur (wE es) (vE es) h0.at (fun i=>(listed.setIfInBounds j true).getD i false) l.length b=match e.w b with
   | true=>e.h1.at b
   | false=>cur (wE es) (vE es) h0.at (fun i=>listed.getD i false) l.length b:=by
   intro b
   have:=cur_set (wr:=wE es) (vl:=vE es) (f:=h0.at) (q:=b) (p:=fun i=>listed.getD i false) (p':=fun i=>(listed.setIfInBounds j true).getD i false) hunf hself hother l.length hjl (fun i hji hil hp hw hwj=>by
    obtain ⟨f,hf⟩:=efs i hil
    unfold wE at hw hwj
    rw [hf] at hw
    rw [ea.here] at hwj
    exact (late i f hji hf hp).2 b hw hwj)
   rw [this]
   unfold wE vE
   rw [ea.here]
   rfl
  have nextS : ∀ t,cur (writes l) (vr es) (Tr.at dp tm0) (fun i=>(listed.setIfInBounds j true).getD i false) l.length t=match writes l j t with
   | true=>some e.r
   | false=>cur (writes l) (vr es) (Tr.at dp tm0) (fun i=>listed.getD i false) l.length t:=by
   intro t
   have:=cur_set (wr:=writes l) (vl:=vr es) (f:=Tr.at dp tm0) (q:=t) (p:=fun i=>listed.getD i false) (p':=fun i=>(listed.setIfInBounds j true).getD i false) hunf hself hother l.length hjl (fun i hji hil hp hw hwj=>ho.dne j i (by omega) t (writes_ok.1 hwj) (writes_ok.1 hw))
   rw [this]
   unfold vr
   rw [ea.here]
   rfl
  have stays : ∀ b x,e.w b=false→cur (wE es) (vE es) h0.at (fun i=>listed.getD i false) l.length b=some x→(k1.at b=some x)∨(k0.at b=none∧w'.heap[σ.bl b]? = w.heap[σ.bl b]?):=by
   intro b x hw hx
   cases h0b:k0.at b with
   | some y =>
     have hy:=view b y h0b
     rw [hx] at hy
     left
     rw [kc b y h0b hw,hy]
   | none =>
     refine .inr ⟨rfl,g2.kp.block _ (B.lt (inv.hs.blk b x hx).1) fun ⟨b0,x0,h00,hbl⟩ => ?_⟩
     have:=inv.hs.inj b0 b x0 x (view b0 x0 h00) hx hbl
     rw [this] at h00
     rw [h0b] at h00
     cases h00
  have okb : ∀ b x,cur (wE es) (vE es) h0.at (fun i=>listed.getD i false) l.length b=some x → ∃ z,σ.β b=some z:=fun b x hx=>(inv.hs.blk b x hx).2.2.2
  refine ⟨⟨fun b x hx => ?_,fun b1 b2 x1 x2 e1 e2 he => ?_,g1.inv,g1.le,g1.fx,fun m hm=>(inv.hs.me m hm).mono g2.le⟩,fun i f hi hf m hm => ?_,fun t r hr => ?_,inv.le.trans g2.le,fun i f hi hf => ?_,fun n hn' => ?_,fun n hn' => ?_,?_,fun b x hx => ?_,inv.head.set hj hjl,by rw [put_size]; exact inv.size,by cases o.dst <;> exact inv.defers⟩
  ·rw [next] at hx
   split at hx
   ·rename_i hw
    rw [kw b hw] at hx
    exact g1.blk b x hx
   ·rename_i hw
    rcases stays b x hw hx with h1 | ⟨h1,h2⟩
    · exact g1.blk b x h1
    ·obtain ⟨i1,i2,i3,i4⟩:=inv.hs.blk b x hx
     obtain ⟨m1,m2⟩:=B.mono g2.le i2 i4 (B.keep i1 h2)
     exact ⟨m1,m2,by rw [(g2.le.bl i4).1]; exact i3,i4.imp fun z hz=>(g2.le.b b z hz).1⟩
  ·rw [next] at e1 e2
   have side : ∀ b x,(match e.w b with
    | true=>e.h1.at b
    | false=>cur (wE es) (vE es) h0.at (fun i=>listed.getD i false) l.length b)=some x→k1.at b=some x∨(k0.at b=none∧e.w b=false∧cur (wE es) (vE es) h0.at (fun i=>listed.getD i false) l.length b=some x):=by
    intro b x hx
    split at hx
    ·rename_i hw
     rw [kw b hw] at hx
     exact .inl hx
    ·rename_i hw
     rcases stays b x hw hx with h1 | ⟨h1,_⟩
     · exact .inl h1
     · exact .inr ⟨h1,hw,hx⟩
   have cross : ∀ b1 b2 x1 x2,k1.at b1=some x1→(k0.at b2=none∧e.w b2=false∧cur (wE es) (vE es) h0.at (fun i=>listed.getD i false) l.length b2=some x2)→σ'.bl b1=σ'.bl b2→False:=by
    intro b1 b2 x1 x2 h1 ⟨h2,h3,h4⟩ hbl
    rw [(g2.le.bl (okb b2 x2 h4)).1] at hbl
    have hlt:=B.lt (inv.hs.blk b2 x2 h4).1
    rcases g2.ad b1 x1 h1 with h5 | ⟨b0,x0,h5,h6⟩
    · omega
    ·have:=inv.hs.inj b0 b2 x0 x2 (view b0 x0 h5) h4 (h6.symm.trans hbl)
     rw [this,h2] at h5
     cases h5
   rcases side b1 x1 e1 with s1 | s1 <;> rcases side b2 x2 e2 with s2 | s2
   · exact g1.inj b1 b2 x1 x2 s1 s2 he
   · exact (cross b1 b2 x1 x2 s1 s2 he).elim
   · exact (cross b2 b1 x2 x1 s2 s1 he.symm).elim
   ·rw [(g2.le.bl (okb b1 x1 s1.2.2)).1,(g2.le.bl (okb b2 x2 s2.2.2)).1] at he
    exact inv.hs.inj b1 b2 x1 x2 s1.2.2 s2.2.2 he
  ·by_cases hij:i=j
   ·subst hij
    obtain rfl:e=f:=Option.some.inj (ea.here.symm.trans hf)
    exact g1.me m (by rw [km]; exact hm)
   ·rw [hother i hij] at hi
    exact (inv.mo i f hi hf m hm).mono g2.le
  ·rw [nextS] at hr
   split at hr
   ·rename_i hw
    cases hr
    have hdt:o.dst=some t:=by rw [← dst_of hoj]; exact writes_ok.1 hw
    have hlt:=dlt t hdt
    refine ⟨by rw [put_size]; exact hlt,?_,g4⟩
    rw [hdt,← g3]
    show (a.tmps.setIfInBounds t v).getD t undef=v
    rw [Array.getD_eq_getD_getElem?,Array.getElem?_setIfInBounds_self_of_lt hlt]
    rfl
   ·rename_i hw
    obtain ⟨i1,i2,i3⟩:=inv.sl t r hr
    obtain ⟨m1,m2⟩:=R.mono g2.le i3
    refine ⟨by rw [put_size]; exact i1,?_,m2⟩
    rw [m1,← i2]
    cases hdo:o.dst with
    | none=>rfl
    | some d =>
      have hne:d≠t:=fun e'=>by
       rw [writes_ok.2 (by rw [dst_of hoj,hdo,e'])] at hw
       cases hw
      show (a.tmps.setIfInBounds d v).getD t undef=_
      rw [Array.getD_eq_getD_getElem?,Array.getD_eq_getD_getElem?,Array.getElem?_setIfInBounds_ne hne]
  ·by_cases hij:i=j
   · subst hij; rw [hself] at hi; cases hi
   ·rw [hother i hij] at hi
    obtain ⟨u1,u2⟩:=inv.un i f hi hf
    have hil:i<l.length:=by have:=(List.getElem?_eq_some_iff.1 hf).1; omega
    have apart:(f.h1.nx≤e.h0.nx∧f.h1.ob≤e.h0.ob)∨(e.h1.nx≤f.h0.nx∧e.h1.ob≤f.h0.ob):=by
     rcases Nat.lt_or_ge i j with hlt | hge
     · exact .inl (ea.ord i f hlt hf)
     ·obtain ⟨f',fa⟩:=hat i _ (List.getElem?_eq_getElem hil)
      have:f'=f:=Option.some.inj (fa.here.symm.trans hf)
      subst this
      exact .inr (fa.ord j e (by omega) ea.here)
    exact ⟨fun n h1 h2=>(g2.sb n (by omega)).trans (u1 n h1 h2),fun n h1 h2=>by
     have e1:=g2.so n (by omega)
     have e2:=u2 n h1 h2
     exact ⟨e1.1.trans e2.1,e1.2.trans e2.2⟩⟩
  ·rw [g2.sb n (by rw [n0,n1]; exact hn' j e hself ea.here)]
   exact inv.sb n fun i f hi hf=>hn' i f (by
    by_cases hij:i=j
    · subst hij; exact hself
    · rw [hother i hij]; exact hi) hf
  ·have e1:=g2.so n (by rw [o0,o1]; exact hn' j e hself ea.here)
   rw [e1.1,e1.2]
   exact inv.so n fun i f hi hf=>hn' i f (by
    by_cases hij:i=j
    · subst hij; exact hself
    · rw [hother i hij]; exact hi) hf
  ·refine inv.kp.trans g2.kp fun k hk ⟨b,x,hx,hbl⟩ => ?_
   rcases inv.ad b x (view b x hx) with h1 | ⟨b0,x0,h2,h3⟩
   · omega
   · exact ⟨b0,x0,h2,h3.symm.trans hbl⟩
  ·rw [next] at hx
   have old : ∀ b x,cur (wE es) (vE es) h0.at (fun i=>listed.getD i false) l.length b=some x→w0.heap.size≤σ'.bl b ∨ ∃ b0 x0,h0.at b0=some x0∧σ'.bl b=σ0.bl b0:=fun b x hx=>by
    rw [(g2.le.bl (okb b x hx)).1]
    exact inv.ad b x hx
   split at hx
   ·rename_i hw
    rw [kw b hw] at hx
    rcases g2.ad b x hx with h1 | ⟨b0,x0,h1,h2⟩
    · exact .inl (Nat.le_trans inv.kp.size h1)
    ·rw [h2]
     have:=old b0 x0 (view b0 x0 h1)
     rw [(g2.le.bl (okb b0 x0 (view b0 x0 h1))).1] at this
     exact this
   · exact old b x hx
 have opd : ∀ x r,x∈o.op.operands→Rn.ev e.tm x=some r→a.eval x=r.val σ∧r.df σ:=by
  intro x r hx hr
  cases x with
  | tmp t=>exact (slot t r (mem_slots hx) hr).2
  | const v=>exact ofK_ok hr σ
  | func f=>cases hr; exact ⟨rfl,O.df_one.2 trivial⟩
  | global g=>cases hr
 have hf : ∀ (k0:H),k0.me=e.h0.me→(∀ b x,k0.at b=some x→cur (wE es) (vE es) h0.at (fun i=>listed.getD i false) l.length b=some x)→Hs c σ k0 w:=fun k0 hm view =>
  ⟨fun b x hx=>inv.hs.blk b x (view b x hx),fun b1 b2 x1 x2 e1 e2=>inv.hs.inj b1 b2 x1 x2 (view b1 x1 e1) (view b2 x2 e2),inv.hs.inv,inv.hs.le,inv.hs.fx,fun m hm'=>by
   rw [hm] at hm'
   rcases ea.me m hm' with h1 | ⟨p,h1,_⟩ | ⟨i,f,h1,h2,h3⟩
   · exact inv.hs.me m h1
   · cases h1
   ·rw [Nat.zero_add,Nat.zero_add] at h2
    exact inv.mo i f ((masks_ok l j i h2).ready inv.head hj) h1 m h3⟩
 cases hld:e.ld with
 | none =>
   have view : ∀ b x,e.h0.at b=some x→cur (wE es) (vE es) h0.at (fun i=>listed.getD i false) l.length b=some x:=by
    intro b x hx
    rw [← view0 b x hx]
    refine cur_skip (m:=j) l.length (Nat.le_of_lt hjl) (fun i h1 h2 hw => ?_)
    by_cases hij:i=j
    · subst hij; exact hunf
    ·obtain ⟨f,hf⟩:=efs i h2
     unfold wE at hw
     rw [hf] at hw
     cases hl:listed.getD i false with
     | false=>rfl
     | true =>
       obtain ⟨t,d,hh,_⟩:=(late i f (by omega) hf hl).1 b x hw hx
       rw [hld] at hh
       cases hh
   have h0s:=hf e.h0 rfl view
   have ok0:e.h0.Ok:=⟨fun b x hx=>by rw [eo.nx]; exact ea.lt.lt b x (eo.sub b x hx),by rw [eo.mr,eo.nx]; exact Nat.le_refl _⟩
   have go1:=go e.h0 e.h1 view (fun _ _=>rfl) (fun b y hb hw=>by
    obtain ⟨k1,k2⟩:=w_ff hw
    rw [eo.ev.ch b (by rw [eo.mr,← eo.nx]; exact ok0.lt b y hb) k1,hb]) rfl rfl rfl rfl rfl
   rcases eo.how with ⟨q1,q2,q3⟩ | ⟨q1,n,q2,q3⟩
   ·have:=want false q1
    refine ⟨fun h=>(by rw [this] at h; cases h),fun _ => ?_⟩
    refine go1 σ w undef ?_ ?_ (by rw [q2]; rfl) (by rw [q2]; trivial)
    · rw [q3]; exact h0s
    · rw [q3]; exact St.refl h0s
   ·have:=want true q1
    refine ⟨fun _ next Q k => ?_,fun h=>(by rw [this] at h; cases h)⟩
    have:=stepA_ok hF h0s ok0 opd q2 (by rw [← q3]; exact hfr)
    rw [← q3] at this
    exact this next Q fun σ' w' v g1 g2 g3 g4=>k σ' w' v (go1 σ' w' v g1 g2 g3 g4)
 | some x =>
   obtain ⟨t,b,d⟩:=x
   obtain ⟨l1,l2,l3,x,hop,hx⟩:=eo.ld t b d hld
   have:=want true l3
   refine ⟨fun _ next Q k => ?_,fun h=>(by rw [this] at h; cases h)⟩
   have hno : ∀ b,e.w b=false:=fun b=>by
    cases hw:e.w b with
    | false=>rfl
    | true =>
      rcases Ef.w_ok.1 hw with h1 | ⟨h1,h2⟩
      · rw [l1,eo.wr0] at h1; cases h1
      · rw [l1] at h2; omega
   have hsome : ∃ y,e.h0.at b=some y:=by
    unfold loadA at l2
    split at l2
    · rename_i hb; exact ⟨_,hb⟩
    · cases l2
   obtain ⟨y,hy⟩:=hsome
   have hbig:b+1<2^dp:=by
    rcases Nat.lt_or_ge (b+1) (2^dp) with h | h
    · exact h
    ·have:e.h0.at b=none:=Tr.at_big _ _ _ h
     rw [this] at hy; cases hy
   obtain ⟨G,hG⟩ : ∃ G,G=cur (wE es) (vE es) h0.at (fun i=>listed.getD i false) l.length b:=⟨_,rfl⟩
   obtain ⟨k0,hk0⟩ : ∃ k0:H,k0=⟨Tr.to dp .nil b G,e.h0.nx,e.h0.ob,e.h0.nx,[],e.h0.me⟩:=⟨_,rfl⟩
   have kb:k0.at b=G:=by rw [hk0]; exact Tr.at_to _ _ _ _ hbig
   have view : ∀ b' x,k0.at b'=some x→cur (wE es) (vE es) h0.at (fun i=>listed.getD i false) l.length b'=some x:=by
    intro b' x hx
    by_cases e1:b=b'
    · subst e1; rw [← hG,← kb]; exact hx
    ·rw [hk0] at hx
     have hx:Tr.at dp (Tr.to dp .nil b G) b'=some x:=hx
     rw [Tr.at_to_ne _ _ _ _ _ e1,Tr.at_nil] at hx
     cases hx
   have hlo:loadA c.P k0 t b d=some e.r:=by
    rcases cur_find (wr:=wE es) (vl:=vE es) (f:=h0.at) (p:=fun i=>listed.getD i false) (q:=b) (m:=j) l.length (Nat.le_of_lt hjl) with h1 | ⟨i,h1,h2,h3,h4,h5⟩
    ·rw [← l2]
     refine loadA_congr ?_
     rw [kb,hG,h1,hy]
     exact view0 b y hy
    ·have hij:i≠j:=fun e1=>by subst e1; rw [hunf] at h3; cases h3
     obtain ⟨f,hf⟩:=efs i h2
     have h4':=h4
     unfold wE at h4'
     rw [hf] at h4'
     obtain ⟨t',d',m1,m2⟩:=(late i f (by omega) hf h3).1 b y h4' hy
     rw [hld] at m1
     cases m1
     rw [← m2]
     refine loadA_congr ?_
     rw [kb,hG,h5]
     unfold vE
     rw [hf]
     rfl
   have h0s:=hf k0 (by rw [hk0]) view
   have go1:=go k0 k0 view (fun b hw=>by rw [hno] at hw; cases hw) (fun _ _ hb _=>hb) (by rw [hk0]) (by rw [hk0]) (by rw [hk0,l1]) (by rw [hk0,l1]) (by rw [hk0,l1])
   obtain ⟨r1,r2⟩:=loadA_ok h0s hlo
   obtain ⟨v1,_⟩:=opd x _ (by rw [hop]; simp [Op.operands]) hx
   have hg:Goes c σ k0 w (execOp a.eval o) e.r k0:=Goes.stay h0s (by
    have:(Instr.loadAt t (a.eval x)).run c.P w = .ok (e.r.val σ) w:=by rw [v1]; exact r1
    simp [execOp,hop,this]) r2
   exact hg.does next Q fun σ' w' v g1 g2 g3 g4=>k σ' w' v (go1 σ' w' v g1 g2 g3 g4)
theorem draw_ok {F:Fs} (hF:FOk c F) (hm:c.P.follows .mixedOrders=true) {Q:Exit→Act→World→Prop} {id:Nat} {l:List Oper} {tm tm':Tm} {h h':H} {a:Act} (e:drawR c.P F l tm h=some (tm',h')) (ok:h.Ok) (hd:dstsB a.tmps.size l=true) (hs:Hs c σ h w) (ht:Ty σ a tm) (hf:Fr σ h h')
 (k : ∀ σ' a' w',Hs c σ' h' w'→St σ σ' h h' w w'→Ty σ' a' tm'→a'.tmps.size=a.tmps.size→Q .normal a' w'):(Code.region id l.toArray true).wp c.P Q a w:=by
 unfold drawR at e
 split at e
 · cases e
 rename_i hob
 have ho:=orderB_ok hob
 split at e
 · cases e
 rename_i es tmE hE hseq
 split at e
 case h_2=>cases e
 rename_i hsp
 obtain ⟨xt,xnx,xob,xmr,xwr,xme⟩:=hE
 simp only [fMe_eq] at e
 cases e
 obtain ⟨hlen,hev,hat,htm,hhe,hme⟩:=seqD_at hF hseq ok ho.dlt
 have hl : ∀ (k:Nat) (e:Ef),es[k]? = some e → ∃ o,l[k]? = some o:=fun k e he=>⟨l[k]'(by have:=(List.getElem?_eq_some_iff.1 he).1; omega),List.getElem?_eq_getElem _⟩
 have hsep:Sep c.P l es:=by
  refine sepB_ok (fun k e he => ?_) (fun i j f e hij hf he => ?_) hsp
  ·obtain ⟨o,hko⟩:=hl k e he
   obtain ⟨e',ea⟩:=hat k o hko
   obtain rfl:e'=e:=Option.some.inj (ea.here.symm.trans he)
   obtain ⟨_,eo⟩:=ea.ok
   exact eo.nm
  ·obtain ⟨o,hko⟩:=hl j e he
   obtain ⟨e',ea⟩:=hat j o hko
   obtain rfl:e'=e:=Option.some.inj (ea.here.symm.trans he)
   exact (ea.ord i f hij hf).1
 refine wp_region_any hm ?_
 have key : ∀ (n:Nat) (listed:Array Bool) (a':Act) (w':World) (σ':Sg),Inv c l es tm h σ a w listed a' w' σ'→Rc.cnt listed l.length=n→wpAny c.P .any l.toArray Q n listed a' w':=by
  have fin : ∀ (listed:Array Bool) (a':Act) (w':World) (σ':Sg),Inv c l es tm h σ a w listed a' w' σ'→(∀ i,i<l.length→listed.getD i false=true)→Q .normal a' w':=by
   intro listed a' w' σ' inv hall
   have e1 : ∀ b,cur (wE es) (vE es) h.at (fun i=>listed.getD i false) l.length b=H.at ⟨xt,xnx,xob,xmr,xwr,xme⟩ b:=fun b=>by
    rw [hhe]
    exact cur_same _ fun i hi _=>hall i hi
   have e2 : ∀ t,cur (writes l) (vr es) (Tr.at dp tm) (fun i=>listed.getD i false) l.length t=Tr.at dp tm' t:=fun t=>by
    rw [htm]
    exact cur_same _ fun i hi _=>hall i hi
   have efs : ∀ (j:Nat) (e:Ef),es[j]? = some e→h.nx≤e.h0.nx∧e.h1.nx≤xnx∧h.ob≤e.h0.ob∧e.h1.ob≤xob:=fun j e he=>by
    obtain ⟨o,hko⟩:=hl j e he
    obtain ⟨e',ea⟩:=hat j o hko
    obtain rfl:e'=e:=Option.some.inj (ea.here.symm.trans he)
    exact ⟨ea.n0.1,ea.n1.1,ea.n0.2,ea.n1.2⟩
   have hsf:Hs c σ' ⟨xt,xnx,xob,xmr,xwr,memos es xme⟩ w':=⟨fun b x hx=>inv.hs.blk b x (by rw [e1]; exact hx),fun b1 b2 x1 x2 h1 h2=>inv.hs.inj b1 b2 x1 x2 (by rw [e1]; exact h1) (by rw [e1]; exact h2),inv.hs.inv,inv.hs.le,inv.hs.fx,fun m hm=>by
    rcases memos_mem hm with h1 | ⟨e,h1,h2⟩
    · exact inv.hs.me m (by rw [← hme]; exact h1)
    ·obtain ⟨j,hj⟩:=List.getElem?_of_mem h1
     have hjl:j<l.length:=by have:=(List.getElem?_eq_some_iff.1 hj).1; omega
     exact inv.mo j e (hall j hjl) hj m h2⟩
   refine k σ' a' w' hsf ⟨inv.le,fun n hn=>inv.sb n fun j e _ he hh=>hn (by have:=efs j e he; show h.nx≤n∧n<xnx; omega),fun n hn=>inv.so n fun j e _ he hh=>hn (by have:=efs j e he; show h.ob≤n∧n<xob; omega),hev.nx,hev.ob,inv.kp,hev.mr,hev.wr,hev.ch,hev.nw,fun b x hx=>inv.ad b x (by rw [e1]; exact hx)⟩ ⟨fun t r hr=>inv.sl t r (by rw [e2]; exact hr),inv.defers⟩ inv.size
  have nready : ∀ (listed:Array Bool),HeadInv .any l.toArray l.length listed→Region.ready .any l.toArray listed = [] → ∀ i,i<l.length→listed.getD i false=true:=by
   intro listed hd hr i
   induction i using Nat.strongRecOn with
   | _ i ih =>
     intro hi
     cases hll:listed.getD i false with
     | true=>rfl
     | false =>
       exfalso
       have:i∈Region.ready .any l.toArray listed:=by
        rw [mem_ready]
        have hsz:i<listed.size:=by rw [hd.size]; simpa using hi
        refine ⟨getD_in hsz hll,l[i],by simp [hi],fun e he hb => ?_⟩
        have:=ho.edge i l[i] (List.getElem?_eq_getElem hi) e he hb
        exact ih e.on this (by omega)
       rw [hr] at this
       cases this
  intro n
  induction n with
  | zero =>
    intro listed a' w' σ' inv hcnt
    have hall:=Rc.cnt_zero l.length hcnt
    refine ⟨?_,fin listed a' w' σ' inv hall⟩
    rw [List.eq_nil_iff_forall_not_mem]
    intro i hi
    obtain ⟨h1,o,h2,_⟩:=mem_ready.1 hi
    have hlt:i<l.length:=by have:=(Array.getElem?_eq_some_iff.1 h2).1; simpa using this
    have:=hall i hlt
    rw [getD_both h1] at this
    cases this
  | succ n ih =>
    intro listed a' w' σ' inv hcnt
    refine ⟨fun hr=>fin listed a' w' σ' inv (nready listed inv.head hr),fun j hj => ?_⟩
    obtain ⟨hun,o,hoj',hdeps⟩:=mem_ready.1 hj
    have hoj:l[j]? = some o:=by simpa using hoj'
    have hjl:j<l.length:=(List.getElem?_eq_some_iff.1 hoj).1
    have hunf:=getD_both hun
    have hsz:j<listed.size:=by rw [inv.head.size]; simpa using hjl
    have hcnt':Rc.cnt (listed.setIfInBounds j true) l.length=n:=by
     have:=Rc.cnt_set hunf hsz l.length hjl
     omega
    obtain ⟨s1,s2⟩:=inv_step hF ho hsep hat hlen hd inv hoj hj
    unfold wpOp
    rw [hoj']
    cases hw:Region.wanted o (yielded l.toArray a'.tmps) with
    | true =>
      simp only [hw,if_true]
      exact .inl (s1 hw _ _ fun σ2 w2 v i2=>ih _ _ _ σ2 i2 hcnt')
    | false =>
      simp only [hw,Bool.false_eq_true,if_false]
      exact ih _ _ _ σ' (s2 hw) hcnt'
 have hcnt : ∀ k,k≤l.length→Rc.cnt (Array.replicate l.toArray.size false) k=k:=by
  intro k
  induction k with
  | zero=>intro _; rfl
  | succ k ih=>intro hk; unfold Rc.cnt; rw [getD_replicate_false,ih (by omega)]; simp
 have hsz:l.toArray.size=l.length:=by simp
 have c0 : ∀ b,cur (wE es) (vE es) h.at (fun i=>(Array.replicate l.toArray.size false).getD i false) l.length b=h.at b:=fun b=>cur_skip (m:=0) l.length (Nat.zero_le _) fun i _ _ _=>getD_replicate_false ..
 have c1 : ∀ t,cur (writes l) (vr es) (Tr.at dp tm) (fun i=>(Array.replicate l.toArray.size false).getD i false) l.length t=Tr.at dp tm t:=fun t=>cur_skip (m:=0) l.length (Nat.zero_le _) fun i _ _ _=>getD_replicate_false ..
 have hdr:=hs.low (w':=w.drew) (Below.drew (Below.refl _ _))
 have:=key l.length (Array.replicate l.toArray.size false) a w.drew σ
  ⟨⟨fun b x hx=>hdr.1.blk b x (by rw [← c0]; exact hx),fun b1 b2 x1 x2 h1 h2=>hdr.1.inj b1 b2 x1 x2 (by rw [← c0]; exact h1) (by rw [← c0]; exact h2),hdr.1.inv,hdr.1.le,hdr.1.fx,hdr.1.me⟩,
    (fun j e hl=>by rw [getD_replicate_false] at hl; cases hl),
    fun t r hr=>ht.get t r (by rw [← c1]; exact hr),Le.refl _,fun j e _ he=>by
     obtain ⟨o,hko⟩:=hl j e he
     obtain ⟨e',ea⟩:=hat j o hko
     obtain rfl:e'=e:=Option.some.inj (ea.here.symm.trans he)
     exact ⟨fun n h1 h2=>hf.1 n (Nat.le_trans ea.n0.1 h1) (Nat.lt_of_lt_of_le h2 ea.n1.1),fun n h1 h2=>hf.2 n (Nat.le_trans ea.n0.2 h1) (Nat.lt_of_lt_of_le h2 ea.n1.2)⟩,
    fun _ _=>rfl,fun _ _=>⟨rfl,rfl⟩,hdr.2.kp,fun b x hx => .inr ⟨b,x,by rw [← c0]; exact hx,rfl⟩,⟨by simp,fun j oj _ hl=>(by rw [getD_replicate_false] at hl; cases hl),fun t h1 h2=>(by simp at h2; omega)⟩,rfl,ht.df⟩ (hcnt _ (Nat.le_refl _))
 rw [hsz]
 exact this
end Rn
end Go.Proofs.YtfodadedkilgdaaGreatDoor

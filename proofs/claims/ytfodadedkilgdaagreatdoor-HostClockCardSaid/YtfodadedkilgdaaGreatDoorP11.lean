/- A part of the proof. Plain; no condition. -/
import Derived.Test.YtfodadedkilgdaaGreatDoorP10
import Derived.Test.YtfodadedkilgdaaGreatDoorP4
namespace Go.Proofs.YtfodadedkilgdaaGreatDoor
set_option linter.unusedVariables false
set_option linter.unusedSimpArgs false
open Go.RowKit Mem
namespace Rn
section
variable {β γ:Type} {wr:Nat→β→Bool} {vl:Nat→β→Option γ} {f:β→Option γ} {p p':Nat→Bool}
def cur (wr:Nat→β→Bool) (vl:Nat→β→Option γ) (f:β→Option γ) (p:Nat→Bool):Nat→β→Option γ
 | 0,q=>f q
 | n+1,q=>match p n && wr n q with
   | true=>vl n q
   | false=>cur wr vl f p n q
theorem cur_succ (n:Nat) (q:β):cur wr vl f p (n+1) q=(match p n && wr n q with
 | true=>vl n q
 | false=>cur wr vl f p n q):=rfl
theorem cur_skip {q:β} {m:Nat} : ∀ n,m≤n→(∀ i,m≤i→i<n→wr i q=true→p i=false)→cur wr vl f p n q=cur wr vl f p m q
 | 0,hm,_=>by obtain rfl:m=0:=by omega
              rfl
 | n+1,hm,h=>by
   rcases Nat.lt_or_ge n m with hlt | hge
   ·obtain rfl:m=n+1:=by omega
    rfl
   ·rw [cur_succ,cur_skip n hge (fun i h1 h2=>h i h1 (by omega))]
    cases hw:wr n q with
    | true=>rw [h n hge (by omega) hw]; rfl
    | false=>rw [Bool.and_false]
theorem cur_same {q:β} : ∀ n,(∀ i,i<n→wr i q=true→p i=p' i)→cur wr vl f p n q=cur wr vl f p' n q
 | 0,_=>rfl
 | n+1,h=>by
   rw [cur_succ,cur_succ,cur_same n (fun i h1=>h i (by omega))]
   cases hw:wr n q with
   | true=>rw [h n (by omega) hw]
   | false=>rw [Bool.and_false,Bool.and_false]
theorem cur_set {q:β} {j:Nat} (hj:p j=false) (hj':p' j=true) (he : ∀ i,i≠j→p' i=p i) : ∀ n,j<n→(∀ i,j<i→i<n→p i=true→wr i q=true→wr j q=true→False) →
 cur wr vl f p' n q=match wr j q with
  | true=>vl j q
  | false=>cur wr vl f p n q
 | n+1,hn,h=>by
   rw [cur_succ,cur_succ]
   by_cases hjn:j=n
   ·subst hjn
    rw [hj,hj',Bool.true_and,Bool.false_and]
    have:cur wr vl f p' j q=cur wr vl f p j q:=cur_same j fun i hi _=>he i (by omega)
    rw [this]
   ·rw [he n (fun e=>hjn e.symm),cur_set hj hj' he n (by omega) (fun i h1 h2=>h i h1 (by omega))]
    cases hw:wr n q with
    | false=>rw [Bool.and_false]
    | true =>
      cases hp:p n with
      | false=>rfl
      | true =>
        cases hwj:wr j q with
        | true=>exact (h n (by omega) (by omega) hp hw hwj).elim
        | false=>rfl
theorem cur_find {q:β} {m:Nat} : ∀ n,m≤n→cur wr vl f p n q=cur wr vl f p m q ∨ ∃ i,m≤i∧i<n∧p i=true∧wr i q=true∧cur wr vl f p n q=vl i q
 | 0,hm=>by obtain rfl:m=0:=by omega
            exact .inl rfl
 | n+1,hm=>by
   rcases Nat.lt_or_ge n m with hlt | hge
   ·obtain rfl:m=n+1:=by omega
    exact .inl rfl
   ·rw [cur_succ]
    cases hb:(p n && wr n q) with
    | true =>
      rw [Bool.and_eq_true] at hb
      exact .inr ⟨n,hge,Nat.lt_succ_self _,hb.1,hb.2,rfl⟩
    | false =>
      rcases cur_find n hge with h | ⟨i,h1,h2,h3⟩
      · exact .inl h
      · exact .inr ⟨i,h1,Nat.lt_succ_of_lt h2,h3⟩
theorem cur_cons (q:β) : ∀ n,cur wr vl f (fun _=>true) (n+1) q=cur (fun i=>wr (i+1)) (fun i=>vl (i+1)) (fun q=>match wr 0 q with
 | true=>vl 0 q
 | false=>f q) (fun _=>true) n q
 | 0=>rfl
 | n+1=>by rw [cur_succ,cur_cons q n]; rfl
theorem cur_congr {wr':Nat→β→Bool} {vl':Nat→β→Option γ} {q:β} {f':β→Option γ} (hf:f q=f' q) : ∀ n,(∀ i,i<n→wr i q=wr' i q∧vl i q=vl' i q)→cur wr vl f p n q=cur wr' vl' f' p n q
 | 0,_=>hf
 | n+1,h=>by rw [cur_succ,cur_succ,cur_congr hf n (fun i hi=>h i (by omega)),(h n (by omega)).1,(h n (by omega)).2]
end
theorem loadA_congr {P:Program} {h h':H} {t:TypeId} {b o:Nat} (e:h.at b=h'.at b):loadA P h t b o=loadA P h' t b o:=by
 unfold loadA
 rw [e]
def slots (o:Oper):List Tmp:=o.op.operands.toList.filterMap fun | .tmp t=>some t | _=>none
def dst (l:List Oper) (j:Nat):Option Tmp:=(l[j]?).bind (·.dst)
def writes (l:List Oper) (j:Nat) (t:Nat):Bool:=match dst l j with
 | some d=>Nat.beq d t
 | none=>false
theorem writes_ok {l:List Oper} {j t:Nat}:writes l j t=true↔dst l j=some t:=by
 unfold writes
 cases dst l j with
 | none=>simp
 | some d => constructor
             · intro h; rw [Nat.eq_of_beq_eq_true h]
             · intro h; cases h; simp
def guardB (M:List Nat) (j:Nat) (o:Oper):Bool:=match o.guard with
 | none=>true
 | some (g,_)=>Nat.blt g j && (M.getD j 0).testBit g
def orderB (l:List Oper) (M:List Nat):Bool :=
 l.zipIdx.all fun (o,j)=>guardB M j o && (o.after.toList.all fun e => !Region.binds .any e || Nat.blt e.on j) &&
  (match o.dst with | some d=>Nat.blt d 65535 && (l.zipIdx.all fun (o',i)=>Nat.beq i j || o'.dst != some d) | none=>true) &&
  (slots o).all fun t=>l.zipIdx.all fun (o',i)=>o'.dst != some t || Nat.beq i j || (match Nat.blt i j with
   | true=>(M.getD j 0).testBit i
   | false=>(M.getD i 0).testBit j)
structure Ord (l:List Oper):Prop where
 guard : ∀ (j:Nat) (o:Oper) (g:Nat) (b:Bool),l[j]? = some o→o.guard=some (g,b)→g<j∧Rc.Anc .any l.toArray g j
 edge : ∀ (j:Nat) (o:Oper),l[j]? = some o → ∀ e∈o.after,Region.binds .any e=true→e.on<j
 dlt : ∀ j d,dst l j=some d→d+1<2^dp
 dne : ∀ i j,i≠j → ∀ d,dst l i=some d→dst l j≠some d
 look : ∀ (j:Nat) (o:Oper) (t:Nat),l[j]? = some o→t∈slots o → ∀ i,dst l i=some t→i=j∨(i<j∧Rc.Anc .any l.toArray i j)∨(j<i∧Rc.Anc .any l.toArray j i)
theorem blt_ff {a b:Nat} (e:Nat.blt a b=false):b≤a:=by
 rcases Nat.lt_or_ge a b with h | h
 ·unfold Nat.blt at e
  rw [Nat.ble_eq_true_of_le h] at e
  cases e
 · exact h
theorem masks_ok (l:List Oper) : ∀ j i,((Rc.masks .any l []).getD j 0).testBit i=true→Rc.Anc .any l.toArray i j :=
 Rc.masks_anc _ [] (fun t ht=>by simp) (fun j i hj=>by simp at hj)
theorem orderB_ok {l:List Oper} (h:orderB l (Rc.masks .any l [])=true):Ord l:=by
 have hM:=masks_ok l
 generalize Rc.masks .any l []=M at *
 unfold orderB at h
 rw [List.all_eq_true] at h
 have each : ∀ (j:Nat) (o:Oper),l[j]? = some o→_:=fun j o hj=>h (o,j) (by rw [List.mk_mem_zipIdx_iff_getElem?]; exact hj)
 simp only [Bool.and_eq_true] at each
 have dj : ∀ j d,dst l j=some d → ∃ o,l[j]? = some o∧o.dst=some d:=fun j d hd=>by
  unfold dst at hd
  cases ho:l[j]? with
  | none=>simp [ho] at hd
  | some o=>exact ⟨o,rfl,by simpa [ho] using hd⟩
 refine ⟨fun j o g b hj hg => ?_,fun j o hj e he hb => ?_,fun j d hd => ?_,fun i j hij d hi hj => ?_,fun j o t hj ht i hi => ?_⟩
 ·have:=(each j o hj).1.1.1
  unfold guardB at this
  rw [hg] at this
  simp only [Bool.and_eq_true] at this
  exact ⟨blt_ok this.1,hM _ _ this.2⟩
 ·have:=List.all_eq_true.1 (each j o hj).1.1.2 e (by simpa using he)
  rw [hb,Bool.not_true,Bool.false_or] at this
  exact blt_ok this
 ·obtain ⟨o,ho,hod⟩:=dj j d hd
  have:=(each j o ho).1.2
  simp only [hod,Bool.and_eq_true] at this
  exact Nat.succ_lt_succ (blt_ok this.1)
 ·obtain ⟨o,ho,hod⟩:=dj i d hi
  obtain ⟨o',ho',hod'⟩:=dj j d hj
  have:=(each i o ho).1.2
  simp only [hod,Bool.and_eq_true] at this
  have h2:=List.all_eq_true.1 this.2 (o',j) (by rw [List.mk_mem_zipIdx_iff_getElem?]; exact ho')
  simp only [Bool.or_eq_true,bne_iff_ne] at h2
  rcases h2 with e | e
  · exact hij (Nat.eq_of_beq_eq_true e).symm
  · exact e hod'
 ·obtain ⟨o',ho',hod'⟩:=dj i t hi
  have h1:=List.all_eq_true.1 (each j o hj).2 t ht
  have h2:=List.all_eq_true.1 h1 (o',i) (by rw [List.mk_mem_zipIdx_iff_getElem?]; exact ho')
  simp only [Bool.or_eq_true,bne_iff_ne] at h2
  rcases h2 with (e | e) | e
  · exact absurd hod' e
  · exact .inl (Nat.eq_of_beq_eq_true e)
  ·cases hlt:Nat.blt i j with
   | true=>rw [hlt] at e; exact .inr (.inl ⟨blt_ok hlt,hM _ _ e⟩)
   | false =>
     rw [hlt] at e
     by_cases hij:i=j
     · exact .inl hij
     ·have:=blt_ff hlt
      exact .inr (.inr ⟨by omega,hM _ _ e⟩)
def lS {α:Type} (f:α→α→Bool):List α→List α→Bool
 | [],[]=>true
 | a::r,b::s=>f a b && lS f r s
 | _,_=>false
theorem lS_ok {α:Type} {f:α→α→Bool} (hf : ∀ a b,f a b=true→a=b) : ∀ {x y:List α},lS f x y=true→x=y
 | [],[],_=>rfl
 | a::r,b::s,h=>by
   unfold lS at h
   rw [Bool.and_eq_true] at h
   rw [hf a b h.1,lS_ok hf h.2]
 | [],b::s,h=>by cases h
 | a::r,[],h=>by cases h
def yS:Y→Y→Bool
 | .k a,.k b=>Nat.beq a b
 | .x o i,.x p j=>Nat.beq o p && Nat.beq i j
 | _,_=>false
theorem yS_ok (x y:Y) (h:yS x y=true):x=y:=by
 unfold yS at h
 split at h
 · rw [Nat.eq_of_beq_eq_true h]
 ·rw [Bool.and_eq_true] at h
  rw [Nat.eq_of_beq_eq_true h.1,Nat.eq_of_beq_eq_true h.2]
 · cases h
def cS:Cap→Cap→Bool
 | .k a,.k b=>Nat.beq a b
 | .g a,.g b=>Nat.beq a b
 | _,_=>false
theorem cS_ok (x y:Cap) (h:cS x y=true):x=y:=by
 unfold cS at h
 split at h
 · rw [Nat.eq_of_beq_eq_true h]
 · rw [Nat.eq_of_beq_eq_true h]
 · cases h
def vS:V→V→Bool
 | .i q n,.i r m=>decide (q=r) && decide (n=m)
 | .b x,.b y=>x==y
 | .x o i,.x p j=>Nat.beq o p && Nat.beq i j
 | .z o i,.z p j=>Nat.beq o p && Nat.beq i j
 | .t k,.t l=>lS yS k l
 | .np,.np=>true
 | .p a d,.p k z=>Nat.beq a k && Nat.beq d z
 | .ns,.ns=>true
 | .s a d l q,.s k z m r=>Nat.beq a k && Nat.beq d z && Nat.beq l m && cS q r
 | .nm,.nm=>true
 | .m a,.m k=>Nat.beq a k
 | .nf,.nf=>true
 | .f a,.f k=>Nat.beq a k
 | _,_=>false
theorem vS_ok (x y:V) (h:vS x y=true):x=y:=by
 unfold vS at h
 split at h <;> first
  | rfl
  | (simp only [Bool.and_eq_true,decide_eq_true_eq] at h; obtain ⟨rfl,rfl⟩:=h; rfl)
  | (rw [eq_of_beq h]; done)
  | (simp only [Bool.and_eq_true] at h; rw [Nat.eq_of_beq_eq_true h.1,Nat.eq_of_beq_eq_true h.2]; done)
  | (rw [lS_ok yS_ok h]; done)
  | (simp only [Bool.and_eq_true] at h; rw [Nat.eq_of_beq_eq_true h.1.1.1,Nat.eq_of_beq_eq_true h.1.1.2,Nat.eq_of_beq_eq_true h.1.2,cS_ok _ _ h.2]; done)
  | (rw [Nat.eq_of_beq_eq_true h]; done)
  | (cases h; done)
def oS:O→O→Bool
 | .v x,.v y=>vS x y
 | .a x,.a y=>lS vS x y
 | _,_=>false
def rS:R→R→Bool
 | .o x,.o y=>oS x y
 | _,_=>false
theorem rS_ok {x y:R} (h:rS x y=true):x=y:=by
 unfold rS at h
 split at h
 ·unfold oS at h
  split at h
  · rw [vS_ok _ _ h]
  · rw [lS_ok vS_ok h]
  · cases h
 · cases h
structure Ef where
 tm:Tm
 hb:H
 h0:H
 h1:H
 r:R
 nm:Option (List Nat)
 ld:Option (TypeId×Nat×Nat)
def V.names:V→List Nat
 | .p a _ => [a]
 | .s a _ _ _ => [a]
 | .se a _ _ _ _ => [a]
 | .m a => [a]
 | _ => []
def nmsOf (ev:Operand→Option R) (l:List Operand):List Nat:=l.flatMap fun x=>match ev x with
 | some (.o (.v x))=>x.names
 | _ => []
def opNm (ev:Operand→Option R) (o:Op):List Nat:=match o with
 | .load _ x=>nmsOf ev [x]
 | .store _ x _=>nmsOf ev [x]
 | .convert _ _ x=>nmsOf ev [x]
 | .lookup _ x _ _=>nmsOf ev [x]
 | .mapUpdate _ x _ _=>nmsOf ev [x]
 | .call c=>nmsOf ev c.args.toList
 | _ => []
def ldOf (ev:Operand→Option R) (o:Op):Option (TypeId×Nat×Nat):=match o with
 | .load t x=>match ev x with
   | some (.o (.v (.p a d)))=>some (t,a,d)
   | _=>none
 | _=>none
def fLd {α:Type} (l:Option (TypeId×Nat×Nat)) (k:Option (TypeId×Nat×Nat)→α):α:=match l with
 | none=>k none
 | some (t,b,o)=>fN b fun b=>fN o fun o=>k (some (t,b,o))
theorem fLd_eq {α:Type} (l:Option (TypeId×Nat×Nat)) (k:Option (TypeId×Nat×Nat)→α):fLd l k=k l:=by
 cases l with
 | none=>rfl
 | some x=>obtain ⟨t,b,o⟩:=x; simp only [fLd,fN_eq]
def Ef.w (e:Ef) (b:Nat):Bool:=(e.h1.wr.any fun k=>Nat.beq k b) || (Nat.ble e.h0.nx b && Nat.blt b e.h1.nx)
def upto (lo hi:Nat):List Nat:=List.range' lo (hi-lo)
noncomputable def mgT (f:Nat→Option B):List Nat→Tr B→Tr B
 | [],t=>t
 | b::r,t=>mgT f r (Tr.to dp t b (f b))
theorem mgT_at {s:H} : ∀ (l:List Nat) (t:Tr B) (b:Nat),Tr.at dp (mgT s.at l t) b=if b∈l then s.at b else Tr.at dp t b
 | [],t,b=>by simp [mgT]
 | a::r,t,b=>by
   unfold mgT
   rw [mgT_at r]
   by_cases hr:b∈r
   · rw [if_pos hr,if_pos (List.mem_cons_of_mem _ hr)]
   ·rw [if_neg hr]
    by_cases hab:a=b
    ·subst hab
     rw [if_pos (List.mem_cons_self ..)]
     by_cases hl:a+1<2^dp
     · exact Tr.at_to _ _ _ _ hl
     ·rw [Tr.at_big _ _ _ (by omega)]
      exact (Tr.at_big _ _ _ (by omega)).symm
    ·rw [if_neg (fun h=>by rcases List.mem_cons.1 h with e | e; exact hab e.symm; exact hr e)]
     exact Tr.at_to_ne _ _ _ _ _ hab
noncomputable def rmT:List Nat→Tr B→Tr B
 | [],t=>t
 | b::r,t=>rmT r (Tr.to dp t b none)
theorem rmT_at : ∀ (l:List Nat) (t:Tr B) (b:Nat),Tr.at dp (rmT l t) b=if b∈l then none else Tr.at dp t b
 | [],t,b=>by simp [rmT]
 | a::r,t,b=>by
   unfold rmT
   rw [rmT_at r]
   by_cases hr:b∈r
   · rw [if_pos hr,if_pos (List.mem_cons_of_mem _ hr)]
   ·rw [if_neg hr]
    by_cases hab:a=b
    ·subst hab
     rw [if_pos (List.mem_cons_self ..)]
     by_cases hl:a+1<2^dp
     · exact Tr.at_to _ _ _ _ hl
     · exact Tr.at_big _ _ _ (by omega)
    ·rw [if_neg (fun h=>by rcases List.mem_cons.1 h with e | e; exact hab e.symm; exact hr e)]
     exact Tr.at_to_ne _ _ _ _ _ hab
section
variable {α:Type}
noncomputable def mgK (f:Nat→Option B) (l:List Nat) (t:Tr B) (k:Tr B→α):α:=match l with
 | []=>k t
 | b::r=>match f b with
   | none=>Tr.toK dp t b none fun t=>mgK f r t k
   | some x=>Tr.toK dp t b (some x) fun t=>mgK f r t k
theorem mgK_eq (f:Nat→Option B) : ∀ (l:List Nat) (t:Tr B) (k:Tr B→α),mgK f l t k=k (mgT f l t)
 | [],_,_=>rfl
 | b::r,t,k=>by
   unfold mgK mgT
   cases f b <;> simp only [Tr.toK_eq,mgK_eq f r]
noncomputable def rmK (l:List Nat) (t:Tr B) (k:Tr B→α):α:=match l with
 | []=>k t
 | b::r=>Tr.toK dp t b none fun t=>rmK r t k
theorem rmK_eq : ∀ (l:List Nat) (t:Tr B) (k:Tr B→α),rmK l t k=k (rmT l t)
 | [],_,_=>rfl
 | b::r,t,k=>by unfold rmK rmT; simp only [Tr.toK_eq,rmK_eq r]
def fNs (l:List Nat) (k:List Nat→α):α:=match l with
 | []=>k []
 | n::r=>fN n fun n=>fNs r fun r=>k (n::r)
theorem fNs_eq : ∀ (l:List Nat) (k:List Nat→α),fNs l k=k l
 | [],_=>rfl
 | n::r,k=>by simp only [fNs,fN_eq,fNs_eq r]
end
noncomputable def H.only (h:H) (l:List Nat):H:=⟨mgT h.at l .nil,h.nx,h.ob,h.nx,[],h.me⟩
theorem H.only_at (h:H) (l:List Nat) (b:Nat):(h.only l).at b=if b∈l then h.at b else none:=by
 show Tr.at dp (mgT h.at l .nil) b=_
 rw [mgT_at,Tr.at_nil]
noncomputable def H.less (h:H) (l:List Nat):H:=⟨rmT l h.h,h.nx,h.ob,h.nx,[],h.me⟩
theorem H.less_at (h:H) (l:List Nat) (b:Nat):(h.less l).at b=if b∈l then none else h.at b:=rmT_at l h.h b
def fewer (n:Nat):List Nat→List Nat→List Nat
 | [],wr=>wr
 | b::r,wr=>match Nat.blt b n with
   | true=>fewer n r (b::wr)
   | false=>fewer n r wr
theorem fewer_mem {n:Nat} : ∀ (l wr:List Nat),(∀ b,b∈wr→b∈fewer n l wr) ∧ ∀ b,b∈l→b<n→b∈fewer n l wr
 | [],wr=>⟨fun _ h=>h,fun _ h=>nomatch h⟩
 | a::r,wr=>by
   unfold fewer
   split
   ·obtain ⟨h1,h2⟩:=fewer_mem r (a::wr) (n:=n)
    refine ⟨fun b hb=>h1 b (List.mem_cons_of_mem _ hb),fun b hb hn => ?_⟩
    rcases List.mem_cons.1 hb with rfl | hb
    · exact h1 _ (List.mem_cons_self ..)
    · exact h2 b hb hn
   ·rename_i hlt
    obtain ⟨h1,h2⟩:=fewer_mem r wr (n:=n)
    refine ⟨h1,fun b hb hn => ?_⟩
    rcases List.mem_cons.1 hb with rfl | hb
    · have:=blt_ff hlt; omega
    · exact h2 b hb hn
def isCall:Op→Bool
 | .call c=>match c.callee with
   | .builtin _=>false
   | _=>true
 | _=>false
def others (m:Nat):List (Nat×Nat×Nat)→List Nat
 | [] => []
 | (i,lo,hi)::r=>match m.testBit i with
   | true=>others m r
   | false=>upto lo hi++others m r
noncomputable def effA (P:Program) (F:Fs) (ops:List Oper) (m:Nat) (rg:List (Nat×Nat×Nat)) (tm:Tm) (h:H) (o:Oper):Option (Ef×H):=match wantR ops tm o with
 | none=>none
 | some false=>some (⟨tm,h,h.only [],h.only [],.u,some [],none⟩,h)
 | some true=>match isCall o.op with
   | false=>fNs (opNm (ev tm) o.op) fun nm=>fLd (ldOf (ev tm) o.op) fun ld=>match h with
     | ⟨t,nx,ob,mr,wr,me⟩=>mgK (H.at ⟨t,nx,ob,mr,wr,me⟩) nm .nil fun t'=>match stepA P F ⟨t',nx,ob,nx,[],me⟩ (ev tm) o.op with
       | none=>none
       | some (r,n)=>fR r fun r=>n.onK ⟨t',nx,ob,nx,[],me⟩ fun h1=>match h1 with
         | ⟨t1,nx1,ob1,mr1,wr1,me1⟩=>mgK (H.at ⟨t1,nx1,ob1,mr1,wr1,me1⟩) (wr1++upto nx nx1) t fun t2=>fNs (fewer mr wr1 wr) fun wr2 =>
           some (⟨tm,⟨t,nx,ob,mr,wr,me⟩,⟨t',nx,ob,nx,[],me⟩,⟨t1,nx1,ob1,mr1,wr1,me1⟩,r,some nm,ld⟩,⟨t2,nx1,ob1,mr,wr2,me⟩)
   | true=>fNs (others m rg) fun rm=>match h with
     | ⟨t,nx,ob,mr,wr,me⟩=>rmK rm t fun t'=>match stepA P F ⟨t',nx,ob,nx,[],me⟩ (ev tm) o.op with
       | none=>none
       | some (r,n)=>fR r fun r=>n.onK ⟨t',nx,ob,nx,[],me⟩ fun h1=>match h1 with
         | ⟨t1,nx1,ob1,mr1,wr1,me1⟩=>mgK (H.at ⟨t,nx,ob,mr,wr,me⟩) (rm.filter fun b => !(wr1.any fun k=>Nat.beq k b) && Nat.blt b nx) t1 fun t2=>fNs (fewer mr wr1 wr) fun wr2 =>
           some (⟨tm,⟨t,nx,ob,mr,wr,me⟩,⟨t',nx,ob,nx,[],me⟩,⟨t1,nx1,ob1,mr1,wr1,me1⟩,r,none,none⟩,⟨t2,nx1,ob1,mr,wr2,me⟩)
variable {c:Cx} {σ σ':Sg} {h h1 h' h'':H} {w w':World}
structure EfOk (P:Program) (F:Fs) (ops:List Oper) (tm:Tm) (h:H) (o:Oper) (e:Ef) (h':H):Prop where
 te:e.tm=tm
 he:e.hb=h
 nx:e.h0.nx=h.nx
 ob:e.h0.ob=h.ob
 mr:e.h0.mr=h.nx
 wr0:e.h0.wr = []
 me0:e.h0.me=h.me
 me1:h'.me=h.me
 sub : ∀ b x,e.h0.at b=some x→h.at b=some x
 nm : ∀ l,e.nm=some l → ∀ b x,e.h0.at b=some x→b∈l
 ev:Ev e.h0 e.h1
 next : ∀ b,h'.at b=match e.w b with
  | true=>e.h1.at b
  | false=>h.at b
 nx':h'.nx=e.h1.nx
 ob':h'.ob=e.h1.ob
 all:Ev h h'
 ld : ∀ t b d,e.ld=some (t,b,d)→e.h1=e.h0∧loadA P e.h0 t b d=some e.r∧wantR ops tm o=some true ∧ ∃ x,o.op = .load t x∧Rn.ev tm x=some (.o (.v (.p b d)))
 how:(wantR ops tm o=some false∧e.r = .u∧e.h1=e.h0)∨(wantR ops tm o=some true ∧ ∃ n,stepA P F e.h0 (Rn.ev tm) o.op=some (e.r,n)∧e.h1=n.on e.h0)
theorem upto_mem {lo hi b:Nat}:b∈upto lo hi↔lo≤b∧b<hi:=by
 unfold upto
 rw [List.mem_range'_1]
 omega
theorem any_mem {l:List Nat} {b:Nat}:(l.any fun k=>Nat.beq k b)=true↔b∈l:=by
 rw [List.any_eq_true]
 constructor
 · intro ⟨x,hx,he⟩; rwa [← Nat.eq_of_beq_eq_true he]
 · intro h; exact ⟨b,h,by simp⟩
theorem Ef.w_ok {e:Ef} {b:Nat}:e.w b=true↔b∈e.h1.wr∨(e.h0.nx≤b∧b<e.h1.nx):=by
 unfold Ef.w
 rw [Bool.or_eq_true,any_mem,Bool.and_eq_true]
 constructor
 ·rintro (h | ⟨h1,h2⟩)
  · exact .inl h
  · exact .inr ⟨Nat.le_of_ble_eq_true h1,blt_ok h2⟩
 ·rintro (h | ⟨h1,h2⟩)
  · exact .inl h
  · exact .inr ⟨Nat.ble_eq_true_of_le h1,Nat.ble_eq_true_of_le h2⟩
theorem ev_of_next {e:Ef} {h h':H} (hnx:e.h0.nx=h.nx) (hob:e.h0.ob=h.ob) (sub : ∀ b x,e.h0.at b=some x→h.at b=some x) (he:Ev e.h0 e.h1) (hmr:h.mr≤h.nx) (next : ∀ b,h'.at b=match e.w b with
 | true=>e.h1.at b
 | false=>h.at b) (n1:h'.nx=e.h1.nx) (n2:h'.ob=e.h1.ob) (n3:h'.mr=h.mr) (n4:h'.wr=fewer h.mr e.h1.wr h.wr):Ev h h':=by
 obtain ⟨f1,f2⟩:=fewer_mem (n:=h.mr) e.h1.wr h.wr
 refine ⟨by rw [n1,← hnx]; exact he.nx,by rw [n2,← hob]; exact he.ob,n3,fun b hb=>by rw [n4]; exact f1 b hb,fun b hb hn => ?_,fun b x hx => ?_⟩
 ·rw [n4] at hn
  have:e.w b=false:=by
   cases hw:e.w b with
   | false=>rfl
   | true =>
     rcases Ef.w_ok.1 hw with h1 | ⟨h1,h2⟩
     · exact absurd (f2 b h1 hb) hn
     · omega
  rw [next,this]
 ·rw [next] at hx
  split at hx
  ·rename_i hw
   rcases he.nw b x hx with ⟨y,hy⟩ | ⟨h1,h2⟩
   · exact .inl ⟨y,sub b y hy⟩
   · exact .inr ⟨by rw [← hnx]; exact h1,by rw [n1]; exact h2⟩
  · exact .inl ⟨x,hx⟩
theorem w_ff {e:Ef} {b:Nat} (h:e.w b=false):b∉e.h1.wr∧(b<e.h0.nx∨e.h1.nx≤b):=by
 refine ⟨fun hb => ?_,?_⟩
 · rw [Ef.w_ok.2 (.inl hb)] at h; cases h
 ·rcases Nat.lt_or_ge b e.h0.nx with h1 | h1
  · exact .inl h1
  ·rcases Nat.lt_or_ge b e.h1.nx with h2 | h2
   · rw [Ef.w_ok.2 (.inr ⟨h1,h2⟩)] at h; cases h
   · exact .inr h2
theorem ld_ok {P:Program} {F:Fs} {ops:List Oper} {tm:Tm} {o:Oper} {h0 h1:H} {t b d:Nat} {r:R} {n:Nx} (hl:ldOf (ev tm) o.op=some (t,b,d)) (hst:stepA P F h0 (ev tm) o.op=some (r,n)) (h1e:h1=n.on h0) (hw:wantR ops tm o=some true) :
 h1=h0∧loadA P h0 t b d=some r∧wantR ops tm o=some true ∧ ∃ x,o.op = .load t x∧Rn.ev tm x=some (.o (.v (.p b d))):=by
 unfold ldOf at hl
 split at hl
 ·rename_i t' x hop
  split at hl
  ·rename_i b' d' hx
   cases hl
   rw [hop] at hst
   unfold stepA at hst
   split at hst
   ·rename_i h2
    cases hst
    dsimp only [op1] at h2
    rw [hx] at h2
    obtain ⟨h3,rfl⟩:=keep_some h2
    exact ⟨h1e,h3,hw,x,hop,hx⟩
   · cases hst
  · cases hl
 · cases hl
theorem effA_ok {P:Program} {F:Fs} (hF:FOk c F) {ops:List Oper} {m:Nat} {rg:List (Nat×Nat×Nat)} {tm:Tm} {o:Oper} {e:Ef} (he:effA P F ops m rg tm h o=some (e,h')) (ok:h.Ok):EfOk P F ops tm h o e h':=by
 unfold effA at he
 split at he
 · cases he
 ·rename_i hw
  cases he
  have hz : ∀ b,(h.only []).at b=none:=fun b=>by rw [H.only_at]; simp
  have w0 : ∀ b,Ef.w ⟨tm,h,h.only [],h.only [],.u,some [],none⟩ b=false:=fun b=>by
   cases hh:Ef.w ⟨tm,h,h.only [],h.only [],.u,some [],none⟩ b with
   | false=>rfl
   | true =>
     rcases Ef.w_ok.1 hh with h1 | ⟨h1,h2⟩
     · cases h1
     · exact absurd h2 (Nat.not_lt.2 h1)
  exact ⟨rfl,rfl,rfl,rfl,rfl,rfl,rfl,rfl,fun b x hx=>(by rw [hz] at hx; cases hx),fun l hl b x hx=>(by rw [hz] at hx; cases hx),Ev.refl _,fun b=>(by rw [w0]),rfl,rfl,Ev.refl _,(fun t b d hh=>by cases hh),.inl ⟨hw,rfl,rfl⟩⟩
 ·rename_i hw
  split at he
  ·obtain ⟨t,nx,ob,mr,wr,me⟩:=h
   simp only [fNs_eq,mgK_eq,fLd_eq] at he
   generalize hnm:opNm (Rn.ev tm) o.op=nm at he
   split at he
   · cases he
   ·rename_i r n hst
    rw [fR_eq,Nx.onK_eq] at he
    have ok0:H.Ok ⟨mgT (H.at ⟨t,nx,ob,mr,wr,me⟩) nm .nil,nx,ob,nx,[],me⟩:=⟨fun b x hx=>(by
     have hx:(H.only ⟨t,nx,ob,mr,wr,me⟩ nm).at b=some x:=hx
     rw [H.only_at] at hx
     split at hx
     · exact ok.lt b x hx
     · cases hx),Nat.le_refl _⟩
    have hev:=stepA_ev hF hst ok0
    generalize hh1:n.on ⟨mgT (H.at ⟨t,nx,ob,mr,wr,me⟩) nm .nil,nx,ob,nx,[],me⟩=h1 at *
    obtain ⟨t1,nx1,ob1,mr1,wr1,me1⟩:=h1
    simp only [fNs_eq,mgK_eq] at he
    cases he
    have next : ∀ b,H.at ⟨mgT (H.at ⟨t1,nx1,ob1,mr1,wr1,me1⟩) (wr1++upto nx nx1) t,nx1,ob1,mr,fewer mr wr1 wr,me⟩ b=match Ef.w ⟨tm,⟨t,nx,ob,mr,wr,me⟩,⟨mgT (H.at ⟨t,nx,ob,mr,wr,me⟩) nm .nil,nx,ob,nx,[],me⟩,⟨t1,nx1,ob1,mr1,wr1,me1⟩,r,some nm,ldOf (ev tm) o.op⟩ b with
     | true=>H.at ⟨t1,nx1,ob1,mr1,wr1,me1⟩ b
     | false=>H.at ⟨t,nx,ob,mr,wr,me⟩ b:=fun b=>by
     show Tr.at dp (mgT (H.at ⟨t1,nx1,ob1,mr1,wr1,me1⟩) (wr1++upto nx nx1) t) b=_
     rw [mgT_at]
     cases hb:Ef.w ⟨tm,⟨t,nx,ob,mr,wr,me⟩,⟨mgT (H.at ⟨t,nx,ob,mr,wr,me⟩) nm .nil,nx,ob,nx,[],me⟩,⟨t1,nx1,ob1,mr1,wr1,me1⟩,r,some nm,ldOf (ev tm) o.op⟩ b with
     | true =>
       dsimp only
       rw [if_pos]
       rcases Ef.w_ok.1 hb with h1 | h1
       · exact List.mem_append_left _ h1
       · exact List.mem_append_right _ (upto_mem.2 h1)
     | false =>
       dsimp only
       rw [if_neg]
       · rfl
       ·intro hm
        obtain ⟨k1,k2⟩:=w_ff hb
        rcases List.mem_append.1 hm with h1 | h1
        · exact k1 h1
        ·have:=upto_mem.1 h1
         have k2:b<nx∨nx1≤b:=k2
         omega
    have sub : ∀ b x,H.at ⟨mgT (H.at ⟨t,nx,ob,mr,wr,me⟩) nm .nil,nx,ob,nx,[],me⟩ b=some x→H.at ⟨t,nx,ob,mr,wr,me⟩ b=some x:=fun b x hx=>by
     have hx:(H.only ⟨t,nx,ob,mr,wr,me⟩ nm).at b=some x:=hx
     rw [H.only_at] at hx
     split at hx
     · exact hx
     · cases hx
    refine ⟨rfl,rfl,rfl,rfl,rfl,rfl,rfl,rfl,sub,fun l hl b x hx => ?_,hev,next,rfl,rfl,ev_of_next rfl rfl sub hev ok.mr next rfl rfl rfl rfl,(fun t' b d hh => ?_),.inr ⟨hw,n,hst,hh1.symm⟩⟩
    rotate_left
    · exact ld_ok hh hst hh1.symm hw
    cases hl
    have hx:(H.only ⟨t,nx,ob,mr,wr,me⟩ nm).at b=some x:=hx
    rw [H.only_at] at hx
    split at hx
    · assumption
    · cases hx
  ·obtain ⟨t,nx,ob,mr,wr,me⟩:=h
   simp only [fNs_eq,rmK_eq] at he
   generalize hrm:others m rg=rm at he
   split at he
   · cases he
   ·rename_i r n hst
    rw [fR_eq,Nx.onK_eq] at he
    have sub : ∀ b x,H.at ⟨rmT rm t,nx,ob,nx,[],me⟩ b=some x→b∉rm∧H.at ⟨t,nx,ob,mr,wr,me⟩ b=some x:=fun b x hx=>by
     have hx:(H.less ⟨t,nx,ob,mr,wr,me⟩ rm).at b=some x:=hx
     rw [H.less_at] at hx
     split at hx
     · cases hx
     · rename_i hb; exact ⟨hb,hx⟩
    have ok0:H.Ok ⟨rmT rm t,nx,ob,nx,[],me⟩:=⟨fun b x hx=>ok.lt b x (sub b x hx).2,Nat.le_refl _⟩
    have hev:=stepA_ev hF hst ok0
    generalize hh1:n.on ⟨rmT rm t,nx,ob,nx,[],me⟩=h1 at *
    obtain ⟨t1,nx1,ob1,mr1,wr1,me1⟩:=h1
    simp only [fNs_eq,mgK_eq] at he
    cases he
    have next : ∀ b,H.at ⟨mgT (H.at ⟨t,nx,ob,mr,wr,me⟩) (rm.filter fun b => !(wr1.any fun k=>Nat.beq k b) && Nat.blt b nx) t1,nx1,ob1,mr,fewer mr wr1 wr,me⟩ b=match Ef.w ⟨tm,⟨t,nx,ob,mr,wr,me⟩,⟨rmT rm t,nx,ob,nx,[],me⟩,⟨t1,nx1,ob1,mr1,wr1,me1⟩,r,none,none⟩ b with
     | true=>H.at ⟨t1,nx1,ob1,mr1,wr1,me1⟩ b
     | false=>H.at ⟨t,nx,ob,mr,wr,me⟩ b:=fun b=>by
     show Tr.at dp (mgT (H.at ⟨t,nx,ob,mr,wr,me⟩) (rm.filter fun b => !(wr1.any fun k=>Nat.beq k b) && Nat.blt b nx) t1) b=_
     rw [mgT_at]
     have hmem:b∈(rm.filter fun b => !(wr1.any fun k=>Nat.beq k b) && Nat.blt b nx)↔b∈rm∧b∉wr1∧b<nx:=by
      rw [List.mem_filter,Bool.and_eq_true]
      constructor
      ·rintro ⟨h1,h2,h3⟩
       refine ⟨h1,fun hb => ?_,blt_ok h3⟩
       rw [any_mem.2 hb] at h2
       cases h2
      ·rintro ⟨h1,h2,h3⟩
       refine ⟨h1,?_,Nat.ble_eq_true_of_le h3⟩
       cases hh:(wr1.any fun k=>Nat.beq k b) with
       | true=>exact absurd (any_mem.1 hh) h2
       | false=>rfl
     have hev' : ∀ b,b<nx→b∉wr1→H.at ⟨t1,nx1,ob1,mr1,wr1,me1⟩ b=H.at ⟨rmT rm t,nx,ob,nx,[],me⟩ b:=hev.ch
     have hat0 : ∀ b,H.at ⟨rmT rm t,nx,ob,nx,[],me⟩ b=if b∈rm then none else H.at ⟨t,nx,ob,mr,wr,me⟩ b:=fun b=>H.less_at ⟨t,nx,ob,mr,wr,me⟩ rm b
     cases hb:Ef.w ⟨tm,⟨t,nx,ob,mr,wr,me⟩,⟨rmT rm t,nx,ob,nx,[],me⟩,⟨t1,nx1,ob1,mr1,wr1,me1⟩,r,none,none⟩ b with
     | true =>
       dsimp only
       have h1:b∈wr1∨(nx≤b∧b<nx1):=Ef.w_ok.1 hb
       rw [if_neg (fun h=>by
        obtain ⟨_,q2,q3⟩:=hmem.1 h
        rcases h1 with h1 | h1
        · exact q2 h1
        · omega)]
       rfl
     | false =>
       dsimp only
       obtain ⟨k1,k2⟩:=w_ff hb
       have k1:b∉wr1:=k1
       have k2:b<nx∨nx1≤b:=k2
       have hle:nx≤nx1:=hev.nx
       rcases k2 with k2 | k2
       ·by_cases hbr:b∈rm
        · rw [if_pos (hmem.2 ⟨hbr,k1,k2⟩)]
        ·rw [if_neg (fun h=>hbr (hmem.1 h).1)]
         show H.at ⟨t1,nx1,ob1,mr1,wr1,me1⟩ b=_
         rw [hev' b k2 k1,hat0,if_neg hbr]
       ·rw [if_neg (fun h=>by have:=(hmem.1 h).2.2; omega)]
        show H.at ⟨t1,nx1,ob1,mr1,wr1,me1⟩ b=_
        have e1:H.at ⟨t1,nx1,ob1,mr1,wr1,me1⟩ b=none:=by
         cases hh:H.at ⟨t1,nx1,ob1,mr1,wr1,me1⟩ b with
         | none=>rfl
         | some x=>have:=(hev.ok ok0).lt b x hh; have this:b<nx1:=this; omega
        have e2:H.at ⟨t,nx,ob,mr,wr,me⟩ b=none:=by
         cases hh:H.at ⟨t,nx,ob,mr,wr,me⟩ b with
         | none=>rfl
         | some x=>have:=ok.lt b x hh; have this:b<nx:=this; omega
        rw [e1,e2]
    have sub':=fun b x hx=>(sub b x hx).2
    refine ⟨rfl,rfl,rfl,rfl,rfl,rfl,rfl,rfl,sub',fun l hl b x hx=>(by cases hl),hev,next,rfl,rfl,ev_of_next rfl rfl sub' hev ok.mr next rfl rfl rfl rfl,(fun t' b d hh=>by cases hh),.inr ⟨hw,n,hst,hh1.symm⟩⟩
end Rn
end Go.Proofs.YtfodadedkilgdaaGreatDoor

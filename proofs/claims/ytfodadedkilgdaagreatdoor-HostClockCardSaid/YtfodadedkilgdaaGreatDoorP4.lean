/- A part of the proof. Plain; no condition. -/
import Derived.StillTail
import Derived.Below
import Derived.Deep.RegionHeld3
namespace Go.Proofs.YtfodadedkilgdaaGreatDoor
open Go.RowKit
namespace Rc
structure Par where
 q:Option Addr
 c:Nat
 v:Value
structure Keeps (B:Nat) (F:Nat→Prop) (x y:World):Prop where
 os:y.os=x.os
 tape:y.tape=x.tape
 output:y.output=x.output
 size:x.heap.size≤y.heap.size
 block : ∀ k,k<x.heap.size→(k<B∨F k)→y.heap[k]? = x.heap[k]?
theorem Keeps.refl (B:Nat) (F:Nat→Prop) (x:World):Keeps B F x x:=⟨rfl,rfl,rfl,Nat.le_refl _,fun _ _ _=>rfl⟩
structure Eff (C:Nat→Prop) (x y:World):Prop where
 os:y.os=x.os
 tape:y.tape=x.tape
 output:y.output=x.output
 size:x.heap.size≤y.heap.size
 block : ∀ k,k<x.heap.size → ¬ C k→y.heap[k]? = x.heap[k]?
theorem Eff.of_below {x y:World} (h:Below x.heap.size x y) (C:Nat→Prop):Eff C x y:=⟨h.os,h.tape,h.output,h.size,fun k hk _=>h.block k hk⟩
def Foot (C:Nat→Prop) (x y:World):Nat→Prop:=fun k=>C k∨(x.heap.size≤k∧k<y.heap.size)
structure Sp where
 ix:Nat
 giv:List Nat
 con:List Nat
 val:Option ((Nat→Par)→Par→Value)
 fact:(Nat→Par)→Par→(Nat→Prop)→World→Prop
def look:List Sp→Nat→Option Sp
 | [],_=>none
 | s::r,i=>if s.ix=i then some s else look r i
theorem look_mem : ∀ {spec:List Sp} {i:Nat} {s:Sp},look spec i=some s→s∈spec∧s.ix=i
 | t::r,i,s,h=>by
   unfold look at h
   split at h
   · rename_i ht; cases h; exact ⟨by simp,ht⟩
   · have:=look_mem h; exact ⟨by simp [this.1],this.2⟩
def dflt:Par:=⟨none,0,undef⟩
def mk (giv:List Nat) (p:Nat→Par):Nat→Par:=fun k=>if giv.contains k=true then p k else dflt
theorem mk_congr {giv:List Nat} {p p':Nat→Par} (h : ∀ i∈giv,p i=p' i):mk giv p=mk giv p':=by
 funext k
 unfold mk
 split
 · rename_i hk; exact h k (by simpa using hk)
 · rfl
def factAt (spec:List Sp) (p:Nat→Par) (Fs:Nat→Nat→Prop) (x:World) (i:Nat):Prop :=
 match look spec i with
 | some s=>s.fact (mk s.giv p) (p i) (Fs i) x
 | none=>True
def Given (spec:List Sp) (p:Nat→Par) (Fs:Nat→Nat→Prop) (x:World):List Nat→Prop
 | []=>True
 | i::r=>factAt spec p Fs x i∧Given spec p Fs x r
theorem Given.of {spec:List Sp} {p:Nat→Par} {Fs:Nat→Nat→Prop} {x:World} : ∀ {r:List Nat},(∀ i∈r,factAt spec p Fs x i)→Given spec p Fs x r
 | [],_=>trivial
 | i::r,h=>⟨h i (by simp),Given.of fun j hj=>h j (by simp [hj])⟩
theorem Given.at {spec:List Sp} {p:Nat→Par} {Fs:Nat→Nat→Prop} {x:World} : ∀ {r:List Nat},Given spec p Fs x r → ∀ i∈r,factAt spec p Fs x i
 | _::_,h,i,hi=>by
   cases hi with
   | head=>exact h.1
   | tail _ hi=>exact Given.at h.2 i hi
def used (Fs:Nat→Nat→Prop) (con:List Nat):Nat→Prop:=fun k => ∃ i∈con,Fs i k
section
variable (P:Program) (ops:Array Oper) (Q:Exit→Act→World→Prop) (B:Nat) (w:World) (spec:List Sp)
def wpF (C:Nat→Prop) (o:Oper) (val:Par→Value) (fact:Par→(Nat→Prop)→World→Prop) (a:Act) (x:World):Prop :=
 wpList P ops (fun e a' x'=>match e with
  | .normal => ∃ pj,a'=a.put o.dst (val pj)∧Eff C x x'∧(∀ y,Keeps B (Foot C x x') x' y→fact pj (Foot C x x') y)
  | e=>Q e a' x') [o] a x
def wpR (p:Nat→Par) (giv:List Nat) (o:Oper) (K:Act→Prop) (a:Act):Prop :=
 (Region.wanted o (yielded ops a.tmps)=true ∧ ∃ v,(∀ x Fs,Below B w x→B≤x.heap.size→Given spec p Fs x giv→(execOp a.eval o).run P x = .ok (.value v) x)∧K (a.put o.dst v)) ∨
 (Region.wanted o (yielded ops a.tmps)=false∧K (a.put o.dst undef))
def stepP (p:Nat→Par) (j:Nat) (o:Oper) (K:Act→Prop) (a:Act):Prop :=
 match look spec j with
 | none=>wpR P ops B w spec p [] o K a
 | some s=>match s.val with
   | none=>wpR P ops B w spec p s.giv o K a
   | some val=>Region.wanted o (yielded ops a.tmps)=true ∧
     (∀ x Fs,Below B w x→B≤x.heap.size→(∀ i∈s.con,∀ k,Fs i k→B≤k∧k<x.heap.size)→Given spec p Fs x s.giv→wpF P ops Q B (used Fs s.con) o (val (mk s.giv p)) (s.fact (mk s.giv p)) a x) ∧
     K (a.put o.dst (val (mk s.giv p) (p j)))
def wpSeq (fin:List Nat) (tail:List Oper) (p:Nat→Par):Nat→List Oper→Act→Prop
 | _,[],a => ∀ x Fs,Below B w x→B≤x.heap.size→(∀ i∈fin,∀ j∈fin,i≠j → ∀ k,Fs i k→Fs j k→False)→Given spec p Fs x fin→wpList P ops Q tail a x
 | j,o::r,a=>stepP P ops Q B w spec p j o (wpSeq fin tail p (j+1) r) a
end
inductive Anc (md:Region.Mode) (ops:Array Oper):Nat→Nat→Prop
 | dir {j:Nat} {o:Oper} {e:Edge}:ops[j]? = some o→e∈o.after→Region.binds md e=true→Anc md ops e.on j
 | tr {i j:Nat} {o:Oper} {e:Edge}:ops[j]? = some o→e∈o.after→Region.binds md e=true→Anc md ops i e.on→Anc md ops i j
section
variable {md:Region.Mode} {ops:Array Oper} {n:Nat} {listed:Array Bool}
theorem Anc.inL {i j:Nat} (h:Anc md ops i j) (inv:HeadInv md ops n listed):listed.getD j false=true→listed.getD i false=true:=by
 induction h with
 | dir ho he hb=>intro hl; exact inv.closed _ _ ho hl _ he hb
 | tr ho he hb _ ih=>intro hl; exact ih (inv.closed _ _ ho hl _ he hb)
theorem Anc.ready {i j:Nat} (h:Anc md ops i j) (inv:HeadInv md ops n listed) (hr:j∈Region.ready md ops listed):listed.getD i false=true:=by
 obtain ⟨_,o,ho,hall⟩:=mem_ready.1 hr
 cases h with
 | dir ho' he hb=>obtain rfl:=Option.some.inj (ho.symm.trans ho'); exact hall _ he hb
 | tr ho' he hb h'=>obtain rfl:=Option.some.inj (ho.symm.trans ho'); exact h'.inL inv (hall _ he hb)
end
def maskOf (md:Region.Mode) (acc:List Nat) (o:Oper):Nat :=
 o.after.toList.foldl (fun m e=>if Region.binds md e then (m ||| (1 <<< e.on)) ||| acc.getD e.on 0 else m) 0
def masks (md:Region.Mode):List Oper→List Nat→List Nat
 | [],acc=>acc
 | o::r,acc=>masks md r (acc ++ [maskOf md acc o])
theorem maskOf_fold {md:Region.Mode} {acc:List Nat} {i:Nat} : ∀ (es:List Edge) (m:Nat),
 (es.foldl (fun m e=>if Region.binds md e then (m ||| (1 <<< e.on)) ||| acc.getD e.on 0 else m) m).testBit i=true →
 m.testBit i=true ∨ ∃ e∈es,Region.binds md e=true∧(e.on=i∨(acc.getD e.on 0).testBit i=true)
 | [],m,h => .inl h
 | e::es,m,h=>by
   rw [List.foldl_cons] at h
   rcases maskOf_fold es _ h with h1 | ⟨e',he',hb,h2⟩
   ·split at h1
    ·rename_i hb
     rw [Nat.testBit_or,Nat.testBit_or,Bool.or_eq_true,Bool.or_eq_true] at h1
     rcases h1 with (h1 | h1) | h1
     · exact .inl h1
     ·refine .inr ⟨e,by simp,hb,.inl ?_⟩
      rw [Nat.one_shiftLeft,Nat.testBit_two_pow] at h1
      simpa using h1
     · exact .inr ⟨e,by simp,hb,.inr h1⟩
    · exact .inl h1
   · exact .inr ⟨e',by simp [he'],hb,h2⟩
theorem masks_anc {md:Region.Mode} {ops:Array Oper} : ∀ (l:List Oper) (acc:List Nat),(∀ t,t<l.length→l[t]? = ops[acc.length+t]?) →
 (∀ j i,(acc.getD j 0).testBit i=true→Anc md ops i j) → ∀ j i,((masks md l acc).getD j 0).testBit i=true→Anc md ops i j
 | [],_,_,h=>h
 | o::r,acc,hl,h=>by
   unfold masks
   have h0:ops[acc.length]? = some o:=by simpa using (hl 0 (by simp)).symm
   refine masks_anc r _ (fun t ht => ?_) (fun j i hj => ?_)
   ·have:=hl (t+1) (by simp; omega)
    rw [List.length_append,List.length_singleton,show acc.length+1+t=acc.length+(t+1) by omega]
    simpa using this
   ·rcases Nat.lt_or_ge j acc.length with hlt | hge
    ·rw [List.getD_eq_getElem?_getD,List.getElem?_append_left hlt,← List.getD_eq_getElem?_getD] at hj
     exact h j i hj
    ·by_cases hjl:j=acc.length
     ·subst hjl
      rw [List.getD_eq_getElem?_getD,List.getElem?_append_right (Nat.le_refl _)] at hj
      simp only [Nat.sub_self,List.getElem?_cons_zero,Option.getD_some] at hj
      rcases maskOf_fold _ _ hj with h1 | ⟨e,he,hb,h2⟩
      · simp at h1
      ·have he':e∈o.after:=by simpa using he
       rcases h2 with rfl | h2
       · exact .dir h0 he' hb
       · exact .tr h0 he' hb (h _ _ h2)
     ·rw [List.getD_eq_getElem?_getD,List.getElem?_eq_none (by simp; omega)] at hj
      simp at hj
def isF (spec:List Sp) (i:Nat):Bool :=
 match look spec i with
 | some s=>s.val.isSome
 | none=>false
def okB (md:Region.Mode) (l:List Oper) (n:Nat) (spec:List Sp) (fin:List Nat) (M:List Nat):Bool :=
 ((l.take n).zipIdx.all fun (o,j)=>(o.after.toList.all fun e => !Region.binds md e || decide (e.on<j)) &&
   ((l.take j).zipIdx.all fun (oi,i)=>(M.getD j 0).testBit i || oi.apart l.toArray o)) &&
 (spec.all fun s=>decide (s.ix<n) && (s.giv.all fun i=>(M.getD s.ix 0).testBit i && isF spec i && (spec.all fun t => !t.con.contains i || t.ix==s.ix || (M.getD t.ix 0).testBit s.ix)) &&
  (s.con.all fun i=>s.giv.contains i)) &&
 (fin.all fun i=>decide (i<n) && isF spec i && spec.all fun t => !t.con.contains i)
structure Chk (md:Region.Mode) (ops:Array Oper) (n:Nat) (spec:List Sp) (fin:List Nat):Prop where
 edge : ∀ j o,j<n→ops[j]? = some o → ∀ e∈o.after,Region.binds md e=true→e.on<j
 apart : ∀ i j oi oj,i<j→j<n→ops[i]? = some oi→ops[j]? = some oj→Anc md ops i j∨oi.apart ops oj=true
 lt : ∀ j s,look spec j=some s→j<n
 giv : ∀ j s,look spec j=some s → ∀ i∈s.giv,Anc md ops i j∧isF spec i=true ∧ ∀ k t,look spec k=some t→i∈t.con→k=j∨Anc md ops j k
 con : ∀ j s,look spec j=some s → ∀ i∈s.con,i∈s.giv
 fin : ∀ i∈fin,i<n∧isF spec i=true ∧ ∀ k t,look spec k=some t→i∉t.con
theorem okB_spec {md:Region.Mode} {l:List Oper} {n:Nat} {spec:List Sp} {fin:List Nat} (hn:n≤l.length) (h:okB md l n spec fin (masks md (l.take n) [])=true):Chk md l.toArray n spec fin:=by
 have hM : ∀ j i,((masks md (l.take n) []).getD j 0).testBit i=true→Anc md l.toArray i j :=
  masks_anc _ [] (fun t ht=>by simp at ht; simp [List.getElem?_take]; omega) (fun j i hj=>by simp at hj)
 generalize masks md (l.take n) []=M at *
 simp only [okB,Bool.and_eq_true,List.all_eq_true] at h
 obtain ⟨⟨h1,h2⟩,h3⟩:=h
 refine ⟨fun j o hj ho e he hb => ?_,fun i j oi oj hij hj hoi hoj => ?_,fun j s hs => ?_,fun j s hs i hi => ?_,fun j s hs i hi => ?_,fun i hi => ?_⟩
 ·have hm:(o,j)∈(l.take n).zipIdx:=by
   rw [List.mk_mem_zipIdx_iff_getElem?,List.getElem?_take,if_pos hj]; simpa using ho
  have:=(h1 _ hm).1 e (by simpa using he)
  simp only [hb,Bool.not_true,Bool.false_or,decide_eq_true_eq] at this
  exact this
 ·have hm:(oj,j)∈(l.take n).zipIdx:=by
   rw [List.mk_mem_zipIdx_iff_getElem?,List.getElem?_take,if_pos hj]; simpa using hoj
  have hm':(oi,i)∈(l.take j).zipIdx:=by
   rw [List.mk_mem_zipIdx_iff_getElem?,List.getElem?_take,if_pos hij]; simpa using hoi
  have:=(h1 _ hm).2 _ hm'
  simp only [Bool.or_eq_true] at this
  exact this.imp (hM _ _) id
 ·obtain ⟨hs1,hs2⟩:=look_mem hs
  have:=(h2 s hs1).1.1
  rw [hs2] at this
  simpa using this
 ·obtain ⟨hs1,hs2⟩:=look_mem hs
  have h4:=(h2 s hs1).1.2 i hi
  rw [hs2] at h4
  refine ⟨hM _ _ h4.1.1,h4.1.2,fun k t ht hit => ?_⟩
  obtain ⟨ht1,ht2⟩:=look_mem ht
  have h5:=h4.2 t ht1
  rw [ht2] at h5
  simp only [Bool.or_eq_true,Bool.not_eq_true',beq_iff_eq] at h5
  rcases h5 with (h5 | h5) | h5
  · exact absurd hit (by simpa using h5)
  · exact .inl h5
  · exact .inr (hM _ _ h5)
 ·obtain ⟨hs1,hs2⟩:=look_mem hs
  have:=(h2 s hs1).2 i hi
  simpa using this
 ·have h4:=h3 i hi
  refine ⟨by simpa using h4.1.1,h4.1.2,fun k t ht hit => ?_⟩
  have:=h4.2 t (look_mem ht).1
  simp only [Bool.not_eq_true'] at this
  exact absurd hit (by simpa using this)
def dstOf (l:List Oper) (k:Nat):Option Tmp:=(l[k]?).bind (·.dst)
def putA (l:List Oper) (vals:Nat→Value) (sel:Nat→Bool) (a:Act):Nat→Act
 | 0=>a
 | k+1=>if sel k then (putA l vals sel a k).put (dstOf l k) (vals k) else putA l vals sel a k
section
variable {l:List Oper} {a:Act}
theorem putA_congr {vals vals':Nat→Value} {sel sel':Nat→Bool} : ∀ (k:Nat),(∀ i,i<k→sel i=sel' i∧(sel i=true→vals i=vals' i))→putA l vals sel a k=putA l vals' sel' a k
 | 0,_=>rfl
 | k+1,h=>by
   have ih:=putA_congr k (fun i hi=>h i (by omega))
   obtain ⟨h1,h2⟩:=h k (by omega)
   unfold putA
   rw [← h1,ih]
   split
   · rename_i hs; rw [h2 hs]
   · rfl
def updV {α:Type} (f:Nat→α) (j:Nat) (v:α):Nat→α:=fun k=>if k=j then v else f k
theorem updV_same {α:Type} (f:Nat→α) (j:Nat) (v:α):updV f j v j=v:=by simp [updV]
theorem updV_ne {α:Type} (f:Nat→α) {j k:Nat} (v:α) (h:k≠j):updV f j v k=f k:=by simp [updV,h]
theorem putA_put {vals:Nat→Value} {sel:Nat→Bool} {j:Nat} {v:Value} : ∀ (k:Nat),j<k→(sel j=false) →
 (∀ i,j<i→i<k→sel i=true → ∀ d,dstOf l j=some d→dstOf l i≠some d) →
 putA l (updV vals j v) (updV sel j true) a k=(putA l vals sel a k).put (dstOf l j) v
 | k+1,hj,hs,h=>by
   by_cases hjk:j=k
   ·subst hjk
    unfold putA
    rw [updV_same,updV_same,if_pos rfl,hs,if_neg (by simp)]
    rw [putA_congr (vals':=vals) (sel':=sel) j (fun i hi=>⟨updV_ne _ _ (by omega),fun _=>updV_ne _ _ (by omega)⟩)]
   ·have ih:=putA_put (vals:=vals) (sel:=sel) (v:=v) k (by omega) hs (fun i hi hk=>h i hi (by omega))
    unfold putA
    rw [updV_ne _ _ (Ne.symm hjk),updV_ne _ _ (Ne.symm hjk),ih]
    split
    ·rename_i hsk
     exact Act.put_comm _ _ _ (h k (by omega) (by omega) hsk)
    · rfl
theorem put_size (a:Act) (d:Option Tmp) (v:Value):(a.put d v).tmps.size=a.tmps.size:=by cases d <;> simp [Act.put]
theorem put_defers (a:Act) (d:Option Tmp) (v:Value):(a.put d v).defers=a.defers:=by cases d <;> rfl
theorem putA_size {vals:Nat→Value} {sel:Nat→Bool} : ∀ k,(putA l vals sel a k).tmps.size=a.tmps.size
 | 0=>rfl
 | k+1=>by unfold putA; split <;> simp [put_size,putA_size k]
theorem put_tmp {a a':Act} {d:Option Tmp} {v:Value} {t:Nat} (hs:a.tmps.size=a'.tmps.size) (h:a.tmps[t]? = a'.tmps[t]?):(a.put d v).tmps[t]? = (a'.put d v).tmps[t]? := by
 cases d with
 | none=>exact h
 | some d =>
   simp only [Act.put,Array.getElem?_setIfInBounds]
   split
   · rw [hs]
   · exact h
theorem put_tmp_ne {a:Act} {d:Option Tmp} {v:Value} {t:Nat} (h:d≠some t):(a.put d v).tmps[t]? = a.tmps[t]? := by
 cases d with
 | none=>rfl
 | some d =>
   have:d≠t:=fun e=>h (by rw [e])
   simp [Act.put,Array.getElem?_setIfInBounds_ne this]
theorem putA_tmps {vals vals':Nat→Value} {sel sel':Nat→Bool} {t:Nat} : ∀ (k:Nat),(∀ i,i<k→(sel i=sel' i∧(sel i=true→vals i=vals' i))∨dstOf l i≠some t) →
 (putA l vals sel a k).tmps[t]? = (putA l vals' sel' a k).tmps[t]?
 | 0,_=>rfl
 | k+1,h=>by
   have ih:=putA_tmps (vals:=vals) (vals':=vals') (sel:=sel) (sel':=sel') (t:=t) k (fun i hi=>h i (by omega))
   unfold putA
   rcases h k (by omega) with ⟨h1,h2⟩ | h1
   ·rw [← h1]
    split
    · rename_i hs; rw [h2 hs]; exact put_tmp (by rw [putA_size,putA_size]) ih
    · exact ih
   · split <;> split <;> simp only [put_tmp_ne h1,ih]
theorem eval_same {o:Oper} {ops:Array Oper} {a a':Act} (hs : ∀ cs b,o.op ≠ .select cs b) (h : ∀ t∈o.looksAt ops,a.tmps[t]? = a'.tmps[t]?) :
 execOp a.eval o=execOp a'.eval o∧Region.wanted o (yielded ops a.tmps)=Region.wanted o (yielded ops a'.tmps):=by
 constructor
 ·refine execOp_congr o hs fun x hx => ?_
  cases x with
  | tmp t =>
    have:=h t (List.mem_append_left _ (List.mem_filterMap.2 ⟨.tmp t,by simpa using hx,rfl⟩))
    simp only [Act.eval,Array.getD_eq_getD_getElem?,this]
  | _=>rfl
 ·unfold Region.wanted
  cases hg:o.guard with
  | none=>rfl
  | some gw =>
    obtain ⟨g,want⟩:=gw
    have hy:yielded ops a.tmps g=yielded ops a'.tmps g:=by
     unfold yielded
     cases ht:(ops[g]?).bind (·.dst) with
     | none=>rfl
     | some t =>
       have:=h t (by simp [Oper.looksAt,hg,ht])
       simp [this]
    simp only [hy]
theorem put_move {a a':Act} {d:Option Tmp} {u v:Value} (hs:a.tmps.size=a'.tmps.size) (h:a.put d u=a.put d v):a'.put d u=a'.put d v:=by
 cases d with
 | none=>rfl
 | some d =>
   simp only [Act.put,Act.mk.injEq,and_true] at h ⊢
   by_cases hd:d<a.tmps.size
   ·have:(a.tmps.setIfInBounds d u)[d]? = (a.tmps.setIfInBounds d v)[d]? := by rw [h]
    simp only [Array.getElem?_setIfInBounds,if_true,hd] at this
    cases this; rfl
   ·have hd':a'.tmps.size≤d:=hs ▸ Nat.le_of_not_lt hd
    rw [Array.setIfInBounds_eq_of_size_le hd',Array.setIfInBounds_eq_of_size_le hd']
end
section
variable {P:Program} {ops:Array Oper} {Q:Exit→Act→World→Prop} {B:Nat}
theorem wpF_op {C:Nat→Prop} {o:Oper} {val:Par→Value} {fact:Par→(Nat→Prop)→World→Prop} {a a':Act} {x:World} {j:Nat}
 (hQ : ∀ c a w,¬ Q (.panic c) a w) (hj:ops[j]? = some o) (hev:execOp a'.eval o=execOp a.eval o) (hw:Region.wanted o (yielded ops a.tmps)=true) (hw':Region.wanted o (yielded ops a'.tmps)=true)
 (hs:a.tmps.size=a'.tmps.size) (h:wpF P ops Q B C o val fact a x) :
 wpOp P ops Q j (fun b x' => ∃ pj,b=a'.put o.dst (val pj)∧Eff C x x'∧(∀ y,Keeps B (Foot C x x') x' y→fact pj (Foot C x x') y)) a' x:=by
 unfold Go.wpOp
 simp only [hj,hw',if_true]
 unfold wpF wpList at h
 simp only [hw,if_true] at h
 rcases h with h | ⟨h1,h2⟩
 ·refine .inl ?_
  unfold Oper.wp at *
  rw [hev]
  generalize (execOp a.eval o).run P x=r at *
  cases r with
  | ok nx w' =>
    cases nx <;> simp only [Oper.upon] at h ⊢
    case value u =>
     obtain ⟨pj,e,r⟩:=h
     exact ⟨pj,put_move hs e,r⟩
    case skip =>
     obtain ⟨pj,e,r⟩:=h
     exact ⟨pj,put_move hs e,r⟩
    case defer d =>
     obtain ⟨pj,e,r⟩:=h
     have:=congrArg Act.defers e
     rw [put_defers,put_defers] at this
     have:=congrArg List.length this
     simp at this
    case enter f args =>
     refine Calls.mono h fun e w'' he => ?_
     cases e with
     | returned u =>
       obtain ⟨pj,e,r⟩:=he
       exact ⟨pj,put_move hs e,r⟩
     | panicked c=>exact absurd he (hQ _ _ _)
     | outgrown=>exact he
    case row row args =>
     refine Rows.mono h fun u w'' he => ?_
     obtain ⟨pj,e,r⟩:=he
     exact ⟨pj,put_move hs e,r⟩
  | halt y w' =>
    cases y <;> simp only [Oper.upon] at h ⊢
    case panic u=>exact absurd h (hQ _ _ _)
 · exact .inr ⟨by unfold Oper.asks at *; rw [hev]; exact h1,h2⟩
end
def seqA (l:List Oper) (n:Nat) (a0:Act) (vals:Nat→Value) (j:Nat):Act:=putA l vals (fun i=>decide (i<j)) a0 n
theorem seqA_succ {l:List Oper} {n j:Nat} {a0:Act} {vals:Nat→Value} (hj:j<n):seqA l n a0 vals (j+1)=(seqA l n a0 vals j).put (dstOf l j) (vals j):=by
 have h:=putA_put (l:=l) (a:=a0) (vals:=vals) (sel:=fun i=>decide (i<j)) (v:=vals j) n hj (by simp) (fun i h1 _ h2=>absurd h2 (by simp; omega))
 have e1:updV vals j (vals j)=vals:=by
  funext k; unfold updV; split
  · rename_i h; rw [h]
  · rfl
 have e2:updV (fun i=>decide (i<j)) j true=fun i=>decide (i<j+1):=by
  funext k; unfold updV; split
  · rename_i h; simp [h]
  · exact decide_eq_decide.2 (by omega)
 rw [e1,e2] at h
 exact h
theorem seqA_upd {l:List Oper} {n j:Nat} {a0:Act} {vals:Nat→Value} {v:Value}:seqA l n a0 (updV vals j v) j=seqA l n a0 vals j :=
 putA_congr n (fun i _=>⟨rfl,fun h=>updV_ne _ _ (by simp at h; omega)⟩)
theorem putA_none {l:List Oper} {a:Act} {vals:Nat→Value} {sel:Nat→Bool} : ∀ (k:Nat),(∀ i,i<k→sel i=false)→putA l vals sel a k=a
 | 0,_=>rfl
 | k+1,h=>by unfold putA; rw [h k (by omega),if_neg (by simp)]; exact putA_none k (fun i hi=>h i (by omega))
def givOf (spec:List Sp) (j:Nat):List Nat :=
 match look spec j with
 | some s=>s.giv
 | none => []
def cnt (listed:Array Bool):Nat→Nat
 | 0=>0
 | k+1=>cnt listed k+(if listed.getD k false then 0 else 1)
theorem cnt_ge {listed:Array Bool} {j:Nat} : ∀ k,k≤j→cnt (listed.setIfInBounds j true) k=cnt listed k
 | 0,_=>rfl
 | k+1,h=>by unfold cnt; rw [cnt_ge k (by omega),getD_set_ne false (by omega)]
theorem cnt_set {listed:Array Bool} {j:Nat} (hu:listed.getD j false=false) (hs:j<listed.size) : ∀ k,j<k→cnt (listed.setIfInBounds j true) k+1=cnt listed k
 | k+1,h=>by
   unfold cnt
   by_cases hjk:j=k
   ·subst hjk
    rw [cnt_ge j (Nat.le_refl _),hu]
    simp [hs]
   ·rw [getD_set_ne false hjk]
    have:=cnt_set hu hs k (by omega)
    omega
theorem cnt_zero {listed:Array Bool} : ∀ k,cnt listed k=0 → ∀ i,i<k→listed.getD i false=true
 | k+1,h,i,hi=>by
   unfold cnt at h
   by_cases hik:i=k
   ·subst hik
    cases hl:listed.getD i false with
    | true=>rfl
    | false=>rw [hl] at h; simp at h
   · exact cnt_zero k (by omega) i (by omega)
theorem cnt_pos {listed:Array Bool} : ∀ k,cnt listed k≠0 → ∃ i,i<k∧listed.getD i false=false
 | 0,h=>absurd rfl h
 | k+1,h=>by
   unfold cnt at h
   cases hl:listed.getD k false with
   | true=>rw [hl] at h; obtain ⟨i,hi,h2⟩:=cnt_pos k (by simpa using h); exact ⟨i,by omega,h2⟩
   | false=>exact ⟨k,by omega,hl⟩
section
variable {P:Program} {md:Region.Mode} {l:List Oper} {Q:Exit→Act→World→Prop} {B n:Nat} {w:World} {spec:List Sp} {fin:List Nat} {a0:Act}
def Live (spec:List Sp) (listed:Array Bool) (i:Nat):Prop :=
 isF spec i=true∧listed.getD i false=true ∧ ∀ k s,look spec k=some s→i∈s.con→listed.getD k false=false
def SOK (P:Program) (l:List Oper) (n:Nat) (a0:Act) (B:Nat) (w:World) (spec:List Sp) (p:Nat→Par) (vals:Nat→Value) (j:Nat) (o:Oper):Prop :=
 (Region.wanted o (yielded l.toArray (seqA l n a0 vals j).tmps)=true ∧ ∃ x Fs,Below B w x∧B≤x.heap.size∧Given spec p Fs x (givOf spec j)∧(execOp (seqA l n a0 vals j).eval o).run P x = .ok (.value (vals j)) x) ∨
 (Region.wanted o (yielded l.toArray (seqA l n a0 vals j).tmps)=false∧vals j=undef)
structure St (P:Program) (md:Region.Mode) (l:List Oper) (B n:Nat) (w:World) (spec:List Sp) (a0:Act) (listed:Array Bool) (a:Act) (x:World) (p:Nat→Par) (Fs:Nat→Nat→Prop) (vals:Nat→Value):Prop where
 inv:HeadInv md l.toArray n listed
 act:a=putA l vals (fun i=>listed.getD i false) a0 n
 bel:Below B w x
 le:B≤x.heap.size
 facts : ∀ i,Live spec listed i → ∀ y,Keeps B (Fs i) x y→factAt spec p Fs y i
 foot : ∀ i,Live spec listed i → ∀ k,Fs i k→B≤k∧k<x.heap.size
 disj : ∀ i i',Live spec listed i→Live spec listed i'→i≠i' → ∀ k,Fs i k→Fs i' k→False
 valF : ∀ i s val,look spec i=some s→s.val=some val→listed.getD i false=true→vals i=val (mk s.giv p) (p i)
 valS : ∀ i o,l[i]? = some o→i<n→isF spec i=false→listed.getD i false=true→SOK P l n a0 B w spec p vals i o
theorem not_sel (hsel:Region.noSelect l.toArray=true) {i:Nat} {o:Oper} (ho:l[i]? = some o) : ∀ cs b,o.op ≠ .select cs b :=
 fun cs b=>Region.noSelect_spec hsel i o cs b (by simpa using ho)
theorem same_seq (hC:Chk md l.toArray n spec fin) (hsel:Region.noSelect l.toArray=true) (hn:n≤l.length) {k:Nat} {o:Oper} (ho:l[k]? = some o) (hk:k<n) {vals vals':Nat→Value}
 (h : ∀ i,Anc md l.toArray i k→vals i=vals' i) :
 execOp (seqA l n a0 vals k).eval o=execOp (seqA l n a0 vals' k).eval o∧Region.wanted o (yielded l.toArray (seqA l n a0 vals k).tmps)=Region.wanted o (yielded l.toArray (seqA l n a0 vals' k).tmps):=by
 refine eval_same (not_sel hsel ho) fun t ht=>putA_tmps n fun i hi => ?_
 by_cases hik:i<k
 ·obtain ⟨oi,hoi⟩ : ∃ oi,l[i]? = some oi:=⟨_,List.getElem?_eq_getElem (by omega)⟩
  rcases hC.apart i k oi o hik hk (by simpa using hoi) (by simpa using ho) with h1 | h1
  · exact .inl ⟨rfl,fun _=>h i h1⟩
  ·refine .inr fun hd => ?_
   simp only [dstOf,hoi,Option.bind_some] at hd
   exact (Oper.apart_spec h1).1 t hd ht
 · exact .inl ⟨rfl,fun h'=>absurd h' (by simpa using hik)⟩
theorem given_congr {p p':Nat→Par} {Fs Fs':Nat→Nat→Prop} {x:World} {L:List Nat} (h : ∀ i∈L,p i=p' i∧Fs i=Fs' i ∧ ∀ s,look spec i=some s → ∀ g∈s.giv,p g=p' g) (hg:Given spec p Fs x L):Given spec p' Fs' x L :=
 Given.of fun i hi=>by
  have h1:=hg.at i hi
  obtain ⟨h2,h3,h4⟩:=h i hi
  unfold factAt at *
  cases hs:look spec i with
  | none=>trivial
  | some s=>rw [hs] at h1; simp only at h1 ⊢; rw [← h2,← h3,← mk_congr (h4 s hs)]; exact h1
section
variable {listed:Array Bool} {a:Act} {x:World} {p:Nat→Par} {Fs:Nat→Nat→Prop} {vals:Nat→Value}
theorem walk (hC:Chk md l.toArray n spec fin) (hsel:Region.noSelect l.toArray=true) (hn:n≤l.length) (h:wpSeq P l.toArray Q B w spec fin (l.drop n) p 0 (l.take n) a0)
 (st:St P md l B n w spec a0 listed a x p Fs vals) : ∀ k,k≤n → ∃ vs:Nat→Value,(∀ i,listed.getD i false=true→vs i=vals i)∧wpSeq P l.toArray Q B w spec fin (l.drop n) p k ((l.take n).drop k) (seqA l n a0 vs k)
 | 0,_=>⟨vals,fun _ _=>rfl,by
  have:seqA l n a0 vals 0=a0:=putA_none n (fun i _=>by simp)
  rw [this]; exact h⟩
 | k+1,hk=>by
   obtain ⟨vs,hv,hseq⟩:=walk hC hsel hn h st k (by omega)
   obtain ⟨o,ho⟩ : ∃ o,l[k]? = some o:=⟨_,List.getElem?_eq_getElem (by omega)⟩
   have hdrop:(l.take n).drop k=o::(l.take n).drop (k+1):=by
    have hlt:k<(l.take n).length:=by simp; omega
    rw [List.drop_eq_getElem_cons hlt]
    congr 1
    have:(l.take n)[k]? = some o:=by rw [List.getElem?_take,if_pos (by omega)]; exact ho
    rw [List.getElem?_eq_getElem hlt] at this
    exact Option.some.inj this
   rw [hdrop] at hseq
   unfold wpSeq at hseq
   have hsame:=same_seq (a0:=a0) hC hsel hn ho (by omega) (vals:=vs) (vals':=vals)
   have key : ∃ v,(listed.getD k false=true→v=vals k)∧wpSeq P l.toArray Q B w spec fin (l.drop n) p (k+1) ((l.take n).drop (k+1)) ((seqA l n a0 vs k).put o.dst v):=by
    have read : ∀ giv,isF spec k=false→givOf spec k=giv→wpR P l.toArray B w spec p giv o (wpSeq P l.toArray Q B w spec fin (l.drop n) p (k+1) ((l.take n).drop (k+1))) (seqA l n a0 vs k) →
     ∃ v,(listed.getD k false=true→v=vals k)∧wpSeq P l.toArray Q B w spec fin (l.drop n) p (k+1) ((l.take n).drop (k+1)) ((seqA l n a0 vs k).put o.dst v):=by
     intro giv hF hgiv hr
     rcases hr with ⟨hw,v,hrun,hK⟩ | ⟨hw,hK⟩
     ·refine ⟨v,fun hl => ?_,hK⟩
      obtain ⟨h1,h2⟩:=hsame (fun i hi=>hv i (hi.inL st.inv hl))
      rcases st.valS k o ho (by omega) hF hl with ⟨_,x0,Fs0,hb,hle,hg,hr0⟩ | ⟨hw0,_⟩
      ·rw [hgiv] at hg
       have:=hrun x0 Fs0 hb hle hg
       rw [h1,hr0] at this
       injection this with this
       injection this with this
       exact this.symm
      · rw [h2,hw0] at hw; cases hw
     ·refine ⟨undef,fun hl => ?_,hK⟩
      obtain ⟨h1,h2⟩:=hsame (fun i hi=>hv i (hi.inL st.inv hl))
      rcases st.valS k o ho (by omega) hF hl with ⟨hw0,_⟩ | ⟨_,hu⟩
      · rw [h2,hw0] at hw; cases hw
      · exact hu.symm
    unfold stepP at hseq
    cases hs:look spec k with
    | none =>
      rw [hs] at hseq
      exact read [] (by simp [isF,hs]) (by simp [givOf,hs]) hseq
    | some s =>
      rw [hs] at hseq
      cases hval:s.val with
      | none =>
        simp only [hval] at hseq
        exact read s.giv (by simp [isF,hs,hval]) (by simp [givOf,hs]) hseq
      | some val =>
        simp only [hval] at hseq
        exact ⟨_,fun hl=>(st.valF k s val hs hval hl).symm,hseq.2.2⟩
   obtain ⟨v,h1,h2⟩:=key
   refine ⟨updV vs k v,fun i hi => ?_,?_⟩
   ·by_cases hik:i=k
    · subst hik; rw [updV_same]; exact h1 hi
    · rw [updV_ne _ _ hik]; exact hv i hi
   ·rw [seqA_succ (by omega),seqA_upd,updV_same,show dstOf l k=o.dst by simp [dstOf,ho]]
    exact h2
theorem same_now (hC:Chk md l.toArray n spec fin) (hsel:Region.noSelect l.toArray=true) (hn:n≤l.length) (st:St P md l B n w spec a0 listed a x p Fs vals)
 {j:Nat} {o:Oper} (ho:l[j]? = some o) (hj:j<n) (hr:j∈Region.ready md l.toArray listed) {vs:Nat→Value} (hv : ∀ i,listed.getD i false=true→vs i=vals i) :
 execOp a.eval o=execOp (seqA l n a0 vs j).eval o∧Region.wanted o (yielded l.toArray a.tmps)=Region.wanted o (yielded l.toArray (seqA l n a0 vs j).tmps):=by
 have hun:=getD_both (mem_ready.1 hr).1
 rw [st.act]
 refine eval_same (not_sel hsel ho) fun t ht=>putA_tmps n fun i hi => ?_
 obtain ⟨oi,hoi⟩ : ∃ oi,l[i]? = some oi:=⟨_,List.getElem?_eq_getElem (by omega)⟩
 rcases Nat.lt_trichotomy i j with hij | hij | hij
 ·cases hl:listed.getD i false with
  | true=>exact .inl ⟨by simp [hij],fun _=>(hv i hl).symm⟩
  | false =>
    rcases hC.apart i j oi o hij hj (by simpa using hoi) (by simpa using ho) with h1 | h1
    · rw [h1.ready st.inv hr] at hl; cases hl
    ·refine .inr fun hd => ?_
     simp only [dstOf,hoi,Option.bind_some] at hd
     exact (Oper.apart_spec h1).1 t hd ht
 ·subst hij
  refine .inl ⟨by simp [hun],fun h' => ?_⟩
  rw [hun] at h'; cases h'
 ·cases hl:listed.getD i false with
  | true =>
    rcases hC.apart j i o oi hij hi (by simpa using ho) (by simpa using hoi) with h1 | h1
    · rw [h1.inL st.inv hl] at hun; cases hun
    ·refine .inr fun hd => ?_
     simp only [dstOf,hoi,Option.bind_some] at hd
     exact (Oper.apart_spec h1).2.2 t hd ht
  | false =>
    have hnot:decide (i<j)=false:=by simp; omega
    exact .inl ⟨by rw [hnot],fun h'=>by cases h'⟩
end
theorem set_eq {listed:Array Bool} {j:Nat} (hs:j<listed.size):(fun i=>(listed.setIfInBounds j true).getD i false)=updV (fun i=>listed.getD i false) j true:=by
 funext i
 by_cases hij:i=j
 · subst hij; rw [updV_same]; simp [hs]
 · rw [updV_ne _ _ hij,getD_set_ne false (Ne.symm hij)]
section
variable {listed:Array Bool} {a:Act} {x:World} {p:Nat→Par} {Fs:Nat→Nat→Prop} {vals:Nat→Value}
theorem act_next (hC:Chk md l.toArray n spec fin) (hn:n≤l.length) (st:St P md l B n w spec a0 listed a x p Fs vals) {j:Nat} {o:Oper} (ho:l[j]? = some o) (hj:j<n)
 (hr:j∈Region.ready md l.toArray listed) (v:Value):a.put o.dst v=putA l (updV vals j v) (fun i=>(listed.setIfInBounds j true).getD i false) a0 n:=by
 have hun:=getD_both (mem_ready.1 hr).1
 have hsz:j<listed.size:=by rw [st.inv.size]; simp; omega
 rw [set_eq hsz,putA_put n hj hun ?_,← st.act,show dstOf l j=o.dst by simp [dstOf,ho]]
 intro i hji hi hl d hd
 obtain ⟨oi,hoi⟩ : ∃ oi,l[i]? = some oi:=⟨_,List.getElem?_eq_getElem (by omega)⟩
 rcases hC.apart j i o oi hji hi (by simpa using ho) (by simpa using hoi) with h1 | h1
 · rw [h1.inL st.inv hl] at hun; cases hun
 ·have:=(Oper.apart_spec h1).2.1 d (by simpa [dstOf,ho] using hd)
  simpa [dstOf,hoi] using this
theorem sok_next (hC:Chk md l.toArray n spec fin) (hsel:Region.noSelect l.toArray=true) (hn:n≤l.length) (st:St P md l B n w spec a0 listed a x p Fs vals) {j:Nat}
 (hr:j∈Region.ready md l.toArray listed) (v:Value) (p':Nat→Par) (hp : ∀ i,i≠j→p' i=p i) {i:Nat} {o:Oper} (ho:l[i]? = some o) (hi:i<n) (hF:isF spec i=false) (hl:listed.getD i false=true) :
 SOK P l n a0 B w spec p' (updV vals j v) i o:=by
 have hun:=getD_both (mem_ready.1 hr).1
 have ne : ∀ k,listed.getD k false=true→k≠j:=fun k hk e=>by subst e; rw [hun] at hk; cases hk
 obtain ⟨h1,h2⟩:=same_seq (a0:=a0) hC hsel hn ho hi (vals:=updV vals j v) (vals':=vals) (fun k hk=>updV_ne _ _ (ne k (hk.inL st.inv hl)))
 unfold SOK
 rw [h1,h2,updV_ne _ _ (ne i hl)]
 refine (st.valS i o ho hi hF hl).imp (fun ⟨hw,x0,Fs0,hb,hle,hg,hrun⟩=>⟨hw,x0,Fs0,hb,hle,given_congr (fun g hg' => ?_) hg,hrun⟩) id
 have hgi : ∃ s,look spec i=some s∧g∈s.giv:=by
  unfold givOf at hg'
  cases hs:look spec i with
  | none=>rw [hs] at hg'; cases hg'
  | some s=>rw [hs] at hg'; exact ⟨s,rfl,hg'⟩
 obtain ⟨s,hs,hgs⟩:=hgi
 have hgl:=(hC.giv i s hs g hgs).1.inL st.inv hl
 exact ⟨(hp g (ne g hgl)).symm,rfl,fun t ht k hk=>(hp k (ne k ((hC.giv g t ht k hk).1.inL st.inv hgl))).symm⟩
theorem fact_same (hC:Chk md l.toArray n spec fin) (st:St P md l B n w spec a0 listed a x p Fs vals) {j:Nat} (hun:listed.getD j false=false) {p':Nat→Par} (hp : ∀ i,i≠j→p' i=p i) {Fs':Nat→Nat→Prop} (hFs : ∀ i,i≠j→Fs' i=Fs i)
 {i:Nat} (hl:listed.getD i false=true) {y:World} (h:factAt spec p Fs y i):factAt spec p' Fs' y i:=by
 have ne : ∀ k,listed.getD k false=true→k≠j:=fun k hk e=>by subst e; rw [hun] at hk; cases hk
 unfold factAt at *
 cases hs:look spec i with
 | none=>trivial
 | some s =>
   rw [hs] at h
   simp only at h ⊢
   rw [hp i (ne i hl),hFs i (ne i hl),mk_congr (p':=p) (fun g hg=>hp g (ne g ((hC.giv i s hs g hg).1.inL st.inv hl)))]
   exact h
theorem live_giv (hC:Chk md l.toArray n spec fin) (st:St P md l B n w spec a0 listed a x p Fs vals) {j:Nat} {s:Sp} (hs:look spec j=some s) (hr:j∈Region.ready md l.toArray listed) : ∀ i∈s.giv,Live spec listed i:=by
 intro i hi
 have hun:=getD_both (mem_ready.1 hr).1
 obtain ⟨h1,h2,h3⟩:=hC.giv j s hs i hi
 refine ⟨h2,h1.ready st.inv hr,fun k t ht hit => ?_⟩
 rcases h3 k t ht hit with rfl | h4
 · exact hun
 ·cases hk:listed.getD k false with
  | false=>rfl
  | true=>rw [h4.inL st.inv hk] at hun; cases hun
theorem given_now (hC:Chk md l.toArray n spec fin) (st:St P md l B n w spec a0 listed a x p Fs vals) {j:Nat} {s:Sp} (hs:look spec j=some s) (hr:j∈Region.ready md l.toArray listed):Given spec p Fs x s.giv :=
 Given.of fun i hi=>st.facts i (live_giv hC st hs hr i hi) x (Keeps.refl _ _ _)
theorem st_read (hC:Chk md l.toArray n spec fin) (hsel:Region.noSelect l.toArray=true) (hn:n≤l.length) (st:St P md l B n w spec a0 listed a x p Fs vals) {j:Nat} {o:Oper} (ho:l[j]? = some o) (hj:j<n)
 (hr:j∈Region.ready md l.toArray listed) (hF:isF spec j=false) (v:Value) (hok:SOK P l n a0 B w spec p (updV vals j v) j o) :
 St P md l B n w spec a0 (listed.setIfInBounds j true) (a.put o.dst v) x p Fs (updV vals j v):=by
 have hun:=getD_both (mem_ready.1 hr).1
 have old : ∀ i,(listed.setIfInBounds j true).getD i false=true→i=j∨listed.getD i false=true:=fun i h=>by
  by_cases hij:i=j
  · exact .inl hij
  · rw [getD_set_ne false (Ne.symm hij)] at h; exact .inr h
 have live : ∀ i,Live spec (listed.setIfInBounds j true) i→Live spec listed i:=fun i ⟨h1,h2,h3⟩=>by
  refine ⟨h1,?_,fun k s hs hi => ?_⟩
  ·rcases old i h2 with rfl | h
   · rw [hF] at h1; cases h1
   · exact h
  ·have:=h3 k s hs hi
   cases hk:listed.getD k false with
   | false=>rfl
   | true=>rw [getD_set_true hk] at this; cases this
 refine ⟨st.inv.set hr hj,act_next hC hn st ho hj hr v,st.bel,st.le,fun i hi=>st.facts i (live i hi),fun i hi=>st.foot i (live i hi),fun i i' hi hi'=>st.disj i i' (live i hi) (live i' hi'),fun i s val hs hval hl => ?_,fun i oi hoi hi hFi hl => ?_⟩
 ·rcases old i hl with rfl | h
  · simp [isF,hs,hval] at hF
  ·have hne:i≠j:=fun e=>by subst e; rw [hun] at h; cases h
   rw [updV_ne _ _ hne]
   exact st.valF i s val hs hval h
 ·rcases old i hl with rfl | h
  ·obtain rfl:=Option.some.inj (ho.symm.trans hoi)
   exact hok
  · exact sok_next hC hsel hn st hr v p (fun _ _=>rfl) hoi hi hFi h
theorem st_make (hC:Chk md l.toArray n spec fin) (hsel:Region.noSelect l.toArray=true) (hn:n≤l.length) (st:St P md l B n w spec a0 listed a x p Fs vals) {j:Nat} {o:Oper} (ho:l[j]? = some o) (hj:j<n)
 (hr:j∈Region.ready md l.toArray listed) {s:Sp} {val:(Nat→Par)→Par→Value} (hs:look spec j=some s) (hval:s.val=some val) {pj:Par} {x':World} (he:Eff (used Fs s.con) x x')
 (hf : ∀ y,Keeps B (Foot (used Fs s.con) x x') x' y→s.fact (mk s.giv p) pj (Foot (used Fs s.con) x x') y) :
 St P md l B n w spec a0 (listed.setIfInBounds j true) (a.put o.dst (val (mk s.giv p) pj)) x' (updV p j pj) (updV Fs j (Foot (used Fs s.con) x x')) (updV vals j (val (mk s.giv p) pj)):=by
 have hun:=getD_both (mem_ready.1 hr).1
 have hFj:isF spec j=true:=by simp [isF,hs,hval]
 have hsz:j<listed.size:=by rw [st.inv.size]; simp; omega
 have ne : ∀ k,listed.getD k false=true→k≠j:=fun k hk e=>by subst e; rw [hun] at hk; cases hk
 have old : ∀ i,(listed.setIfInBounds j true).getD i false=true→i=j∨listed.getD i false=true:=fun i h=>by
  by_cases hij:i=j
  · exact .inl hij
  · rw [getD_set_ne false (Ne.symm hij)] at h; exact .inr h
 have live : ∀ i,Live spec (listed.setIfInBounds j true) i→i=j∨(Live spec listed i∧i∉s.con):=fun i ⟨h1,h2,h3⟩=>by
  rcases old i h2 with h | h
  · exact .inl h
  ·refine .inr ⟨⟨h1,h,fun k t ht hi => ?_⟩,fun hi => ?_⟩
   ·have:=h3 k t ht hi
    cases hk:listed.getD k false with
    | false=>rfl
    | true=>rw [getD_set_true hk] at this; cases this
   ·have:=h3 j s hs hi
    simp [hsz] at this
 have conL : ∀ c∈s.con,Live spec listed c:=fun c hc=>live_giv hC st hs hr c (hC.con j s hs c hc)
 have hself:mk s.giv (updV p j pj)=mk s.giv p:=mk_congr fun g hg=>updV_ne _ _ (ne g ((hC.giv j s hs g hg).1.ready st.inv hr))
 refine ⟨st.inv.set hr hj,act_next hC hn st ho hj hr _,?_,Nat.le_trans st.le he.size,fun i hi y hy => ?_,fun i hi k hk => ?_,fun i i' hi hi' hne k hk hk' => ?_,fun i t v hi hv hl => ?_,fun i oi hoi hi hFi hl => ?_⟩
 ·refine st.bel.trans ⟨he.os,he.tape,he.output,he.size,fun k hk=>he.block k (by have:=st.le; omega) fun ⟨c,hc,hck⟩ => ?_⟩
  have:=(st.foot c (conL c hc) k hck).1
  omega
 ·rcases live i hi with rfl | ⟨hL,hnc⟩
  ·rw [updV_same] at hy
   unfold factAt
   rw [hs]
   simp only
   rw [hself,updV_same,updV_same]
   exact hf y hy
  ·have hij:=ne i hL.2.1
   rw [updV_ne _ _ hij] at hy
   refine fact_same hC st hun (fun k hk=>updV_ne _ _ hk) (fun k hk=>updV_ne _ _ hk) hL.2.1 (st.facts i hL y ⟨hy.os.trans he.os,hy.tape.trans he.tape,hy.output.trans he.output,Nat.le_trans he.size hy.size,fun k hk hB => ?_⟩)
   rw [hy.block k (Nat.lt_of_lt_of_le hk he.size) hB,he.block k hk fun ⟨c,hc,hck⟩ => ?_]
   rcases hB with hB | hB
   ·have:=(st.foot c (conL c hc) k hck).1
    omega
   · exact st.disj i c hL (conL c hc) (fun e=>hnc (e ▸ hc)) k hB hck
 ·rcases live i hi with rfl | ⟨hL,hnc⟩
  ·rw [updV_same] at hk
   rcases hk with ⟨c,hc,hck⟩ | ⟨h1,h2⟩
   ·have:=st.foot c (conL c hc) k hck
    exact ⟨this.1,Nat.lt_of_lt_of_le this.2 he.size⟩
   · exact ⟨Nat.le_trans st.le h1,h2⟩
  ·rw [updV_ne _ _ (ne i hL.2.1)] at hk
   have:=st.foot i hL k hk
   exact ⟨this.1,Nat.lt_of_lt_of_le this.2 he.size⟩
 ·have one : ∀ i',Live spec listed i'→i'∉s.con→Foot (used Fs s.con) x x' k→Fs i' k→False:=fun i' hL hnc h1 h2=>by
   rcases h1 with ⟨c,hc,hck⟩ | ⟨h3,_⟩
   · exact st.disj c i' (conL c hc) hL (fun e=>hnc (e ▸ hc)) k hck h2
   ·have:=(st.foot i' hL k h2).2
    omega
  rcases live i hi with rfl | ⟨hL,hnc⟩
  ·rcases live i' hi' with rfl | ⟨hL',hnc'⟩
   · exact hne rfl
   ·rw [updV_same] at hk
    rw [updV_ne _ _ (ne i' hL'.2.1)] at hk'
    exact one i' hL' hnc' hk hk'
  ·rcases live i' hi' with rfl | ⟨hL',hnc'⟩
   ·rw [updV_same] at hk'
    rw [updV_ne _ _ (ne i hL.2.1)] at hk
    exact one i hL hnc hk' hk
   ·rw [updV_ne _ _ (ne i hL.2.1)] at hk
    rw [updV_ne _ _ (ne i' hL'.2.1)] at hk'
    exact st.disj i i' hL hL' hne k hk hk'
 ·rcases old i hl with rfl | h
  ·obtain rfl:=Option.some.inj (hs.symm.trans hi)
   rw [hval] at hv
   obtain rfl:=Option.some.inj hv
   rw [updV_same,updV_same,hself]
  ·rw [updV_ne _ _ (ne i h),updV_ne _ _ (ne i h),mk_congr (p':=p) (fun g hg=>updV_ne _ _ (ne g ((hC.giv i t hi g hg).1.inL st.inv h)))]
   exact st.valF i t v hi hv h
 ·rcases old i hl with rfl | h
  · rw [hFj] at hFi; cases hFi
  · exact sok_next hC hsel hn st hr _ _ (fun k hk=>updV_ne _ _ hk) hoi hi hFi h
end
end
section
variable {P:Program} {md:Region.Mode} {l:List Oper} {Q:Exit→Act→World→Prop} {B n:Nat} {w:World} {spec:List Sp} {fin:List Nat} {a0:Act}
theorem some_ready (hC:Chk md l.toArray n spec fin) (hn:n≤l.length) {listed:Array Bool} (inv:HeadInv md l.toArray n listed) : ∀ (i:Nat),i<n→listed.getD i false=false → ∃ j,j∈Region.ready md l.toArray listed:=by
 intro i
 induction i using Nat.strongRecOn with
 | _ i ih =>
   intro hi hu
   obtain ⟨o,ho⟩ : ∃ o,l.toArray[i]? = some o:=⟨_,by simpa using List.getElem?_eq_getElem (l:=l) (i:=i) (by omega)⟩
   have hsz:i<listed.size:=by rw [inv.size]; simp; omega
   by_cases h : ∀ e∈o.after,Region.binds md e=true→listed.getD e.on false=true
   · exact ⟨i,mem_ready.2 ⟨getD_in hsz hu,o,ho,h⟩⟩
   ·simp only [Classical.not_forall] at h
    obtain ⟨e,he,hb,hf⟩:=h
    have:=hC.edge i o hi ho e he hb
    exact ih e.on this (by omega) (by simpa using hf)
theorem go (hQ : ∀ c a w,¬ Q (.panic c) a w) (hC:Chk md l.toArray n spec fin) (hsel:Region.noSelect l.toArray=true) (hn:n≤l.length)
 (htail:n=l.length∨(Region.sinkB md l.toArray n=true∧Region.chainB md l.toArray n=true))
 (hseqB:Region.seqB md l.toArray (l.length-n) n (Array.ofFn (n:=l.length) fun i=>decide (i.val<n))=true)
 (h : ∀ p,wpSeq P l.toArray Q B w spec fin (l.drop n) p 0 (l.take n) a0) : ∀ (f:Nat) (listed:Array Bool) (a:Act) (x:World) (p:Nat→Par) (Fs:Nat→Nat→Prop) (vals:Nat→Value),
 St P md l B n w spec a0 listed a x p Fs vals→cnt listed n=f→wpAny P md l.toArray Q (f+(l.length-n)) listed a x
 | 0,listed,a,x,p,Fs,vals,st,hc=>by
   have hall:=cnt_zero n hc
   obtain ⟨vs,hv,hseq⟩:=walk hC hsel hn (h p) st n (Nat.le_refl _)
   have hnil:(l.take n).drop n = []:=List.drop_eq_nil_of_le (by simp; omega)
   rw [hnil] at hseq
   unfold wpSeq at hseq
   have live : ∀ i∈fin,Live spec listed i:=fun i hi=>by
    obtain ⟨h1,h2,h3⟩:=hC.fin i hi
    exact ⟨h2,hall i h1,fun k s hs hk=>absurd hk (h3 k s hs)⟩
   have hseq:=hseq x Fs st.bel st.le (fun i hi j hj hij k h1 h2=>st.disj i j (live i hi) (live j hj) hij k h1 h2) (Given.of fun i hi=>st.facts i (live i hi) x (Keeps.refl _ _ _))
   have ha:seqA l n a0 vs n=a:=by
    rw [st.act]
    exact putA_congr n fun i hi=>⟨by simp [hi,hall i hi],fun _=>hv i (hall i hi)⟩
   rw [ha] at hseq
   have hlist:listed=Array.ofFn (n:=l.length) fun i=>decide (i.val<n):=by
    apply Array.ext
    · simp [st.inv.size]
    ·intro i h1 h2
     simp only [Array.getElem_ofFn]
     have hs:listed.size=l.length:=by rw [st.inv.size]; simp
     by_cases hin:i<n
     ·have:=hall i hin
      simp [h1] at this
      simp [hin,this]
     ·have:=st.inv.tail i (by omega) (by simp; omega)
      simp [h1] at this
      simp [hin,this]
   have hdl:(l.drop n).length=l.length-n:=by simp
   have:=wpAny_of_seq (md:=md) (Q':=Q) (ops:=l.toArray) (P:=P) (l.drop n) n listed a x (fun j=>by simp [List.getElem?_drop]) (by rw [hdl,hlist]; exact hseqB) hseq
   rw [hdl] at this
   rwa [Nat.zero_add]
 | f+1,listed,a,x,p,Fs,vals,st,hc=>by
   obtain ⟨i,hi,hu⟩:=cnt_pos n (by omega:cnt listed n≠0)
   rw [show f+1+(l.length-n)=(f+(l.length-n))+1 by omega]
   have hsz0:listed.size=l.length:=by rw [st.inv.size]; simp
   refine ⟨fun h0 => ?_,fun j hj => ?_⟩
   ·obtain ⟨j,hj⟩:=some_ready hC hn st.inv i hi hu
    rw [h0] at hj; cases hj
   ·have hjn:j<n:=by
     rcases htail with he | ⟨h1,h2⟩
     ·obtain ⟨_,o,ho,_⟩:=mem_ready.1 hj
      have:=(Array.getElem?_eq_some_iff.1 ho).1
      simp at this; omega
     ·rcases Nat.lt_or_ge j n with h | h
      · exact h
      ·rcases Nat.lt_or_ge n l.length with hlt | hge
       · exact absurd hj (tail_waits h1 h2 (by simpa using hlt) st.inv _ i rfl hi (getD_in (by omega) hu) j h)
       ·obtain ⟨_,o,ho,_⟩:=mem_ready.1 hj
        have:=(Array.getElem?_eq_some_iff.1 ho).1
        simp at this; omega
    obtain ⟨o,ho⟩ : ∃ o,l[j]? = some o:=⟨_,List.getElem?_eq_getElem (by omega)⟩
    have ho':l.toArray[j]? = some o:=by simpa using ho
    have hun:=getD_both (mem_ready.1 hj).1
    have hcnt:cnt (listed.setIfInBounds j true) n=f:=by
     have:=cnt_set hun (by omega) n hjn
     omega
    obtain ⟨vs,hv,hseq⟩:=walk hC hsel hn (h p) st j (by omega)
    have hdrop:(l.take n).drop j=o::(l.take n).drop (j+1):=by
     have hlt:j<(l.take n).length:=by simp; omega
     rw [List.drop_eq_getElem_cons hlt]
     congr 1
     have:(l.take n)[j]? = some o:=by rw [List.getElem?_take,if_pos hjn]; exact ho
     rw [List.getElem?_eq_getElem hlt] at this
     exact Option.some.inj this
    rw [hdrop] at hseq
    unfold wpSeq stepP at hseq
    obtain ⟨hev,hwa⟩:=same_now hC hsel hn st ho hjn hj hv
    have anc : ∀ i,Anc md l.toArray i j→vs i=vals i:=fun i hi=>hv i (hi.ready st.inv hj)
    have same : ∀ v,execOp (seqA l n a0 (updV vals j v) j).eval o=execOp (seqA l n a0 vs j).eval o∧Region.wanted o (yielded l.toArray (seqA l n a0 (updV vals j v) j).tmps)=Region.wanted o (yielded l.toArray (seqA l n a0 vs j).tmps):=fun v=>by
     rw [seqA_upd]
     exact same_seq hC hsel hn ho hjn (fun i hi=>(anc i hi).symm)
    have read : ∀ giv,isF spec j=false→givOf spec j=giv→Given spec p Fs x giv→wpR P l.toArray B w spec p giv o (wpSeq P l.toArray Q B w spec fin (l.drop n) p (j+1) ((l.take n).drop (j+1))) (seqA l n a0 vs j) →
     wpOp P l.toArray Q j (wpAny P md l.toArray Q (f+(l.length-n)) (listed.setIfInBounds j true)) a x:=by
     intro giv hF hgiv hg hr
     have next : ∀ v,SOK P l n a0 B w spec p (updV vals j v) j o→wpAny P md l.toArray Q (f+(l.length-n)) (listed.setIfInBounds j true) (a.put o.dst v) x:=fun v hok =>
      go hQ hC hsel hn htail hseqB h f _ _ x p Fs _ (st_read hC hsel hn st ho hjn hj hF v hok) hcnt
     unfold Go.wpOp
     simp only [ho']
     rcases hr with ⟨hw,v,hrun,_⟩ | ⟨hw,_⟩
     ·have hr0:=hrun x Fs st.bel st.le hg
      rw [hwa,hw,if_pos rfl]
      refine .inl ?_
      unfold Oper.wp
      rw [hev,hr0]
      simp only [Oper.upon]
      refine next v (.inl ⟨by rw [(same v).2]; exact hw,x,Fs,st.bel,st.le,by rw [hgiv]; exact hg,by rw [(same v).1,updV_same]; exact hr0⟩)
     ·rw [hwa,hw,if_neg (by simp)]
      exact next undef (.inr ⟨by rw [(same undef).2]; exact hw,updV_same _ _ _⟩)
    cases hs:look spec j with
    | none =>
      rw [hs] at hseq
      exact read [] (by simp [isF,hs]) (by simp [givOf,hs]) trivial hseq
    | some s =>
      rw [hs] at hseq
      cases hval:s.val with
      | none =>
        simp only [hval] at hseq
        exact read s.giv (by simp [isF,hs,hval]) (by simp [givOf,hs]) (given_now hC st hs hj) hseq
      | some val =>
        simp only [hval] at hseq
        obtain ⟨hw,hrun,_⟩:=hseq
        have h1:=hrun x Fs st.bel st.le (fun i hi k hk=>st.foot i (live_giv hC st hs hj i (hC.con j s hs i hi)) k hk) (given_now hC st hs hj)
        have h2:=wpF_op (Q:=Q) hQ ho' hev hw (by rw [hwa]; exact hw) (by rw [st.act,seqA,putA_size,putA_size]) h1
        refine wpOp_mono (fun b x' ⟨pj,hb,he,hf⟩ => ?_) h2
        rw [hb]
        exact go hQ hC hsel hn htail hseqB h f _ _ x' _ _ _ (st_make hC hsel hn st ho hjn hj hs hval he hf) hcnt
theorem region {id:Nat} {a:Act} {w:World} (B n:Nat) (spec:List Sp) (fin:List Nat) (hm:P.follows .mixedOrders=true) (hB0:B≤w.heap.size)
 (hB:(Region.noSelect l.toArray && decide (n≤l.length) && (decide (n=l.length) || (Region.sinkB .any l.toArray n && Region.chainB .any l.toArray n)) &&
  Region.seqB .any l.toArray (l.length-n) n (Array.ofFn (n:=l.length) fun i=>decide (i.val<n)) && okB .any l n spec fin (masks .any (l.take n) []))=true)
 (h : ∀ p,wpSeq P l.toArray (NoPanic Q) B w.drew spec fin (l.drop n) p 0 (l.take n) a):(Code.region id l.toArray true).wp P Q a w:=by
 simp only [Bool.and_eq_true,Bool.or_eq_true,decide_eq_true_eq] at hB
 obtain ⟨⟨⟨⟨hsel,hn⟩,ht⟩,hs⟩,hok⟩:=hB
 have hC:=okB_spec hn hok
 have inv0:HeadInv .any l.toArray n (Array.replicate l.toArray.size false) :=
  ⟨by simp,fun j oj _ hl=>(by rw [getD_replicate_false] at hl; cases hl),fun t _ ht=>getD_in (by simpa using ht) (getD_replicate_false _ _)⟩
 have nolive : ∀ i,¬ Live spec (Array.replicate l.toArray.size false) i:=fun i hi=>by have:=hi.2.1; rw [getD_replicate_false] at this; cases this
 have st0:St P .any l B n w.drew spec a (Array.replicate l.toArray.size false) a w.drew (fun _=>dflt) (fun _ _=>False) (fun _=>undef) :=
  ⟨inv0,(putA_none n (fun i _=>getD_replicate_false _ _)).symm,Below.refl _ _,hB0,fun i hi=>absurd hi (nolive i),fun i hi=>absurd hi (nolive i),fun i _ hi=>absurd hi (nolive i),
   fun i _ _ _ _ hl=>(by rw [getD_replicate_false] at hl; cases hl),fun i _ _ _ _ hl=>(by rw [getD_replicate_false] at hl; cases hl)⟩
 have hcnt : ∀ k,k≤n→cnt (Array.replicate l.toArray.size false) k=k:=by
  intro k
  induction k with
  | zero=>intro _; rfl
  | succ k ih=>intro hk; unfold cnt; rw [getD_replicate_false,ih (by omega)]; simp
 have H:=go (Q:=NoPanic Q) (fun _ _ _ h=>h) hC hsel hn ht hs h n _ a w.drew _ _ _ st0 (hcnt n (Nat.le_refl _))
 rw [show n+(l.length-n)=l.toArray.size by simp; omega] at H
 exact wp_region_noPanic (wp_region_any hm H)
end
section
variable {P:Program} {ops:Array Oper} {Q:Exit→Act→World→Prop} {B:Nat} {w:World} {spec:List Sp} {fin:List Nat} {tail:List Oper} {p:Nat→Par} {j:Nat} {o:Oper} {r:List Oper} {a:Act}
def Gives (x:World) (v:Value):Result Next→Prop
 | .ok (.value u) w'=>w'=x∧u=v
 | _=>False
@[go_sem] theorem gives_ok {x w':World} {u v:Value}:Gives x v (.ok (.value u) w')=(w'=x∧u=v):=rfl
theorem Gives.eq {x:World} {v:Value} : ∀ {r:Result Next},Gives x v r→r = .ok (.value v) x
 | .ok (.value _) _,h=>by obtain ⟨rfl,rfl⟩:=h; rfl
theorem seq_none {K:Act→Prop} (hl:look spec j=none) (h:wpR P ops B w spec p [] o K a):stepP P ops Q B w spec p j o K a:=by
 unfold stepP; rw [hl]; exact h
theorem rK (hl:look spec j=none) (hw:Region.wanted o (yielded ops a.tmps)=true)
 (h : ∀ K:Act→Prop,(∀ a,wpSeq P ops Q B w spec fin tail p (j+1) r a→K a) → ∃ v,(∀ x,Below B w x→Gives x v ((execOp a.eval o).run P x))∧K (a.put o.dst v)):wpSeq P ops Q B w spec fin tail p j (o::r) a:=by
 obtain ⟨v,h1,h2⟩:=h _ (fun _ h=>h)
 exact seq_none hl (.inl ⟨hw,v,fun x _ hb _ _=>(h1 x hb).eq,h2⟩)
theorem r_run (v:Value) (hl:look spec j=none) (hw:Region.wanted o (yielded ops a.tmps)=true) (hrun : ∀ x,Below B w x→(execOp a.eval o).run P x = .ok (.value v) x)
 (h : ∀ K:Act→Prop,(∀ a,wpSeq P ops Q B w spec fin tail p (j+1) r a→K a)→K (a.put o.dst v)):wpSeq P ops Q B w spec fin tail p j (o::r) a :=
 seq_none hl (.inl ⟨hw,v,fun x _ hb _ _=>hrun x hb,h _ (fun _ h=>h)⟩)
theorem fK {s:Sp} {val:(Nat→Par)→Par→Value} (hl:look spec j=some s) (hv:s.val=some val) (_hc:s.con = []) (hw:Region.wanted o (yielded ops a.tmps)=true)
 (h : ∀ x Fs,Below B w x→B≤x.heap.size→Given spec p Fs x s.giv → ∀ K:Act→World→Prop,
  (∀ pj x',Below x.heap.size x x'→(∀ (F:Nat→Prop) y,(∀ k,x.heap.size≤k→k<x'.heap.size→F k)→Keeps B F x' y→s.fact (mk s.giv p) pj F y)→K (a.put o.dst (val (mk s.giv p) pj)) x') →
  wpList P ops (fun e a' x'=>match e with | .normal=>K a' x' | e=>Q e a' x') [o] a x)
 (h2 : ∀ K:Act→Prop,(∀ a,wpSeq P ops Q B w spec fin tail p (j+1) r a→K a)→K (a.put o.dst (val (mk s.giv p) (p j)))):wpSeq P ops Q B w spec fin tail p j (o::r) a:=by
 unfold wpSeq stepP
 rw [hl]
 simp only [hv]
 exact ⟨hw,fun x Fs hb hle _ hg=>h x Fs hb hle hg _ (fun pj x' hx hf=>⟨pj,rfl,Eff.of_below hx _,fun y hy=>hf _ y (fun k h1 h2 => .inr ⟨h1,h2⟩) hy⟩),h2 _ (fun _ h=>h)⟩
theorem cK {s:Sp} {val:(Nat→Par)→Par→Value} (hl:look spec j=some s) (hv:s.val=some val) (hw:Region.wanted o (yielded ops a.tmps)=true)
 (h : ∀ x Fs,Below B w x→B≤x.heap.size→Given spec p Fs x s.giv → ∀ K:Act→World→Prop,
  (∀ pj x',Eff (used Fs s.con) x x'→(∀ y,Keeps B (Foot (used Fs s.con) x x') x' y→s.fact (mk s.giv p) pj (Foot (used Fs s.con) x x') y)→K (a.put o.dst (val (mk s.giv p) pj)) x') →
  wpList P ops (fun e a' x'=>match e with | .normal=>K a' x' | e=>Q e a' x') [o] a x)
 (h2 : ∀ K:Act→Prop,(∀ a,wpSeq P ops Q B w spec fin tail p (j+1) r a→K a)→K (a.put o.dst (val (mk s.giv p) (p j)))):wpSeq P ops Q B w spec fin tail p j (o::r) a:=by
 unfold wpSeq stepP
 rw [hl]
 simp only [hv]
 exact ⟨hw,fun x Fs hb hle _ hg=>h x Fs hb hle hg _ (fun pj x' hx hf=>⟨pj,rfl,hx,hf⟩),h2 _ (fun _ h=>h)⟩
theorem done (h : ∀ x Fs,Below B w x→B≤x.heap.size→Given spec p Fs x fin→wpList P ops Q tail a x):wpSeq P ops Q B w spec fin tail p j [] a:=fun x Fs h1 h2 _ h3=>h x Fs h1 h2 h3
theorem cell_le {x:World} (hx:Below B w x) {p:Addr} {v:Value} (hp:p.block<B) (h:w.cell? p=some v):x.cell? p=some v:=(Below.cell hx hp).trans h
end
def F (ix:Nat) (val:Par→Value) (fact:Par→(Nat→Prop)→World→Prop):Sp:=⟨ix,[],[],some (fun _=>val),fun _=>fact⟩
end Rc
end Go.Proofs.YtfodadedkilgdaaGreatDoor

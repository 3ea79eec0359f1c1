/- A part of the proof. Plain; no condition. -/
import Derived.Test.YtfodadedkilgdaaGreatDoorP21
import Derived.Test.YtfodadedkilgdaaGreatDoorP20
import Derived.Test.YtfodadedkilgdaaGreatDoorChecked
namespace Go.Proofs.YtfodadedkilgdaaGreatDoor
set_option linter.unusedVariables false
set_option linter.unusedSimpArgs false
open Go.RowKit
namespace Ab
inductive Pc where
 | at (i:Nat)
 | ci (k:IntKind) (n:Int)
 | cb (b:Bool)
 | nl
instance (n:Nat):OfNat Pc n:=⟨.at n⟩
inductive X where
 | ag (l:List Pc)
 | iv (k:IntKind) (m:Int)
 | bv (c:Bool)
 | sv (i:Nat)
 | nv
 | tp (x y:X)
 | tr (x y z:X)
def Pc.K (S:List Nat):Pc→List K
 | .at i=>celK (.at i) (S.getD i 0)
 | .ci k n => [.ci k n]
 | .cb b => [.cb b]
 | .nl => [.nl]
def Pc.V (A:List (Array Value)):Pc→List Value
 | .at i=>(A.getD i #[]).toList
 | .ci k n => [.int k n]
 | .cb b => [.bool b]
 | .nl => [.slice none 0 0]
def X.T (S:List Nat):X→T
 | .ag l => .agg (l.flatMap (Pc.K S))
 | .iv k n => .int k n n
 | .bv b => .cb b
 | .sv i => .cel (.at i) 0
 | .nv => .nl
 | .tp x y => .t2 (x.T S) (y.T S)
 | .tr x y z => .t3 (x.T S) (y.T S) (z.T S)
def X.V (A:List (Array Value)):X→Value
 | .ag l => .agg (l.flatMap (Pc.V A)).toArray
 | .iv k n => .int k n
 | .bv b => .bool b
 | .sv i=>((A.getD i #[])[0]?).getD undef
 | .nv => .slice none 0 0
 | .tp x y => .tuple #[x.V A,y.V A]
 | .tr x y z => .tuple #[x.V A,y.V A,z.V A]
def R (A:List (Array Value)):Tm→List Value
 | .at i=>(A.getD i #[]).toList
 | .bl b => [.bool b]
 | .pick x y z=>match (R A x)[0]? with
   | some (Value.bool true)=>R A y
   | _=>R A z
 | _ => []
theorem R_pick (A:List (Array Value)):PickOk (R A):=⟨fun _=>rfl,fun x y z b c h k=>by
 rw [R,h]
 cases b <;> exact k⟩
structure AtomsOk (A:List (Array Value)) (S:List Nat):Prop where
 size : ∀ i,(A.getD i #[]).size=S.getD i 0
 one : ∀ i,∀ v∈(A.getD i #[]).toList,v.oneCell'=true
theorem atomsOk {A:List (Array Value)} {S:List Nat} (h:A.map (·.size)=S) (h1:(A.all fun C=>C.all (·.oneCell'))=true):AtomsOk A S:=by
 subst h
 refine ⟨fun i => ?_,fun i v hv => ?_⟩
 ·simp only [List.getD_eq_getElem?_getD,List.getElem?_map]
  cases A[i]? <;> rfl
 ·rw [List.getD_eq_getElem?_getD] at hv
  cases hi:A[i]? with
  | none=>rw [hi] at hv; simp at hv
  | some C =>
    rw [hi] at hv
    have:=List.all_eq_true.1 h1 C (List.mem_of_getElem? hi)
    rw [Array.all_eq_true_iff_forall_mem] at this
    exact this v (by simpa using hv)
theorem CT.nil (σ:S):CT σ [] []:=⟨rfl,fun i κ h=>by simp at h⟩
theorem CT.app {σ:S} {C D:List Value} {l m:List K} (h:CT σ C l) (h':CT σ D m):CT σ (C++D) (l++m):=by
 refine ⟨by simp [h.1,h'.1],fun i κ hi => ?_⟩
 rcases Nat.lt_or_ge i l.length with hl | hl
 ·rw [List.getElem?_append_left hl] at hi
  obtain ⟨v,h1,h2⟩:=h.2 i κ hi
  exact ⟨v,by rw [List.getElem?_append_left (by rw [h.1]; exact hl)]; exact h1,h2⟩
 ·rw [List.getElem?_append_right hl] at hi
  obtain ⟨v,h1,h2⟩:=h'.2 _ κ hi
  exact ⟨v,by rw [List.getElem?_append_right (by rw [h.1]; exact hl),h.1]; exact h1,h2⟩
theorem CT.cut {σ:S} {C:List Value} {l m:List K} (h:CT σ C (l++m)) : ∃ D E,C=D++E∧CT σ D l∧CT σ E m:=by
 refine ⟨C.take l.length,C.drop l.length,(List.take_append_drop ..).symm,?_,?_⟩
 ·have:=h.seg 0 l.length
  simpa using this
 ·have:=h.seg l.length m.length
  have e1:(C.drop l.length).take m.length=C.drop l.length:=List.take_of_length_le (by have:=h.1; simp at this ⊢; omega)
  rw [e1] at this
  simpa using this
section
variable {σ:S} {A:List (Array Value)} {Z:List Nat} (hA:AtomsOk A Z) (hr:σ.rho=R A)
include hA hr
theorem cel_mk (i:Nat):CT σ (A.getD i #[]).toList (celK (.at i) (Z.getD i 0)):=by
 have hs:=hA.size i
 refine ⟨by simp only [celK,List.length_map,List.length_range,Array.length_toList]; exact hs,fun j κ hj => ?_⟩
 unfold celK at hj
 rw [List.getElem?_map,Option.map_eq_some_iff] at hj
 obtain ⟨j',hj,rfl⟩:=hj
 obtain ⟨hlt,e⟩:=List.getElem?_eq_some_iff.1 hj
 rw [List.getElem_range] at e
 rw [List.length_range] at hlt
 subst e
 have hlt':j<(A.getD i #[]).toList.length:=by rw [Array.length_toList,hs]; exact hlt
 refine ⟨(A.getD i #[]).toList[j],List.getElem?_eq_getElem hlt',?_,hA.one i _ (List.getElem_mem _)⟩
 rw [hr]
 exact List.getElem?_eq_getElem hlt'
theorem cel_ok (i:Nat) {C:List Value} (h:CT σ C (celK (.at i) (Z.getD i 0))):C=(A.getD i #[]).toList:=by
 have hs:=hA.size i
 have hl:C.length=Z.getD i 0:=by have:=h.1; simpa [celK] using this
 refine List.ext_getElem? fun j => ?_
 rcases Nat.lt_or_ge j (Z.getD i 0) with hj | hj
 ·obtain ⟨v,h1,h2⟩:=h.2 j (.cel (.at i) j) (by unfold celK; rw [List.getElem?_map,List.getElem?_range hj]; rfl)
  rw [h1]
  have:=h2.1
  rw [hr] at this
  exact this.symm
 · rw [List.getElem?_eq_none (by omega),List.getElem?_eq_none (by rw [Array.length_toList,hs]; exact hj)]
theorem Pc.mk (p:Pc):CT σ (p.V A) (p.K Z):=by
 cases p with
 | «at» i=>exact cel_mk hA hr i
 | ci k n=>exact CT_single (κ := .ci k n) rfl
 | cb b=>exact CT_single (κ := .cb b) rfl
 | nl=>exact CT_single (κ := .nl) rfl
omit hA hr in
theorem one_of {κ:K} {C:List Value} (h:CT σ C [κ]) : ∃ v,C = [v]∧KT σ v κ:=by
 obtain ⟨v,h1,h2⟩:=h.2 0 κ rfl
 have hl:=h.1
 match C,hl with
 | [x],_=>cases h1; exact ⟨_,rfl,h2⟩
theorem Pc.ok (p:Pc) {C:List Value} (h:CT σ C (p.K Z)):C=p.V A:=by
 cases p with
 | «at» i=>exact cel_ok hA hr i h
 | ci k n=>obtain ⟨v,rfl,hv⟩:=one_of h; obtain rfl:v=_:=hv; rfl
 | cb b=>obtain ⟨v,rfl,hv⟩:=one_of h; obtain rfl:v=_:=hv; rfl
 | nl=>obtain ⟨v,rfl,hv⟩:=one_of h; obtain rfl:v=_:=hv; rfl
omit hA hr in
theorem pcs_pl (S:List Nat) : ∀ l:List Pc,(l.flatMap (Pc.K S)).all pK=true
 | []=>rfl
 | p::l=>by
   rw [List.flatMap_cons,List.all_append,pcs_pl S l,Bool.and_true]
   cases p with
   | «at» i=>exact celK_pl _ _
   | _=>rfl
theorem Pcs.mk : ∀ l:List Pc,CT σ (l.flatMap (Pc.V A)) (l.flatMap (Pc.K Z))
 | []=>CT.nil σ
 | p::l=>(Pc.mk hA hr p).app (Pcs.mk l)
theorem Pcs.ok : ∀ (l:List Pc) {C:List Value},CT σ C (l.flatMap (Pc.K Z))→C=l.flatMap (Pc.V A)
 | [],C,h=>List.eq_nil_of_length_eq_zero h.1
 | p::l,C,h=>by
   obtain ⟨D,E,rfl,h1,h2⟩:=CT.cut (l:=p.K Z) h
   rw [Pc.ok hA hr p h1,Pcs.ok l h2]
   rfl
def X.fit (S:List Nat):X→Bool
 | .sv i=>Nat.beq (S.getD i 0) 1
 | .tp x y=>x.fit S && y.fit S
 | .tr x y z=>x.fit S && (y.fit S && z.fit S)
 | _=>true
theorem X.mk : ∀ x:X,X.fit Z x=true→VT σ (x.V A) (x.T Z)
 | .ag l,_=>⟨_,rfl,by simpa using Pcs.mk hA hr l⟩
 | .iv k n,_=>⟨n,rfl,Int.le_refl _,Int.le_refl _⟩
 | .bv b,_=>rfl
 | .sv i,h=>by
   have hs:=hA.size i
   have h1:Z.getD i 0=1:=Nat.eq_of_beq_eq_true h
   rw [h1] at hs
   have hlt:0<(A.getD i #[]).toList.length:=by rw [Array.length_toList,hs]; exact Nat.one_pos
   have e:(A.getD i #[])[0]? = some ((A.getD i #[]).toList[0]):=by rw [← Array.getElem?_toList]; exact List.getElem?_eq_getElem hlt
   show (σ.rho (.at i))[0]? = some (((A.getD i #[])[0]?).getD undef)∧(((A.getD i #[])[0]?).getD undef).oneCell'=true
   rw [e]
   refine ⟨?_,hA.one i _ (List.getElem_mem _)⟩
   rw [hr]
   exact List.getElem?_eq_getElem hlt
 | .nv,_=>rfl
 | .tp x y,h=>by
   simp only [X.fit,Bool.and_eq_true] at h
   exact ⟨_,_,rfl,X.mk x h.1,X.mk y h.2⟩
 | .tr x y z,h=>by
   simp only [X.fit,Bool.and_eq_true] at h
   exact ⟨_,_,_,rfl,X.mk x h.1,X.mk y h.2.1,X.mk z h.2.2⟩
theorem X.ok : ∀ (x:X) {v:Value},VT σ v (x.T Z)→v=x.V A
 | .ag l,v,⟨C,e,hC⟩=>by
   rw [e]
   show Value.agg C = .agg _
   rw [← Pcs.ok hA hr l hC]
 | .iv k n,v,⟨m,e,h1,h2⟩=>by rw [e,Int.le_antisymm h2 h1]; rfl
 | .bv b,v,h=>h
 | .sv i,v,h=>by
   have h1:(σ.rho (.at i))[0]? = some v:=h.1
   rw [hr] at h1
   have h2:(A.getD i #[]).toList[0]? = some v:=h1
   rw [Array.getElem?_toList] at h2
   show v=((A.getD i #[])[0]?).getD undef
   rw [h2]
   rfl
 | .nv,v,h=>h
 | .tp x y,v,⟨p,q,e,h1,h2⟩=>by rw [e,X.ok x h1,X.ok y h2]; rfl
 | .tr x y z,v,⟨p,q,s,e,h1,h2,h3⟩=>by rw [e,X.ok x h1,X.ok y h2,X.ok z h3]; rfl
theorem X.oks : ∀ (xs:List X) {vs:List Value},VTs σ vs (xs.map (X.T Z))→vs=xs.map (X.V A)
 | [],vs,h=>List.eq_nil_of_length_eq_zero h.1
 | x::xs,[],h=>by have:=h.1; simp at this
 | x::xs,v::vs,h=>by
   obtain ⟨u,h1,h2⟩:=h.2 0 (x.T Z) rfl
   cases h1
   rw [X.ok hA hr x h2,X.oks xs (vs:=vs) ⟨by have:=h.1; simpa using this,fun i τ hi=>by simpa using h.2 (i+1) τ (by simpa using hi)⟩]
   rfl
theorem X.mks : ∀ (xs:List X),(xs.all (X.fit Z))=true→VTs σ (xs.map (X.V A)) (xs.map (X.T Z))
 | [],_=>⟨rfl,fun i τ hi=>by simp at hi⟩
 | x::xs,h=>by
   simp only [List.all_cons,Bool.and_eq_true] at h
   have ih:=X.mks xs h.2
   refine ⟨by simp,fun i τ hi => ?_⟩
   cases i with
   | zero=>simp at hi; subst hi; exact ⟨_,rfl,X.mk hA hr x h.1⟩
   | succ i=>simpa using ih.2 i τ (by simpa using hi)
end
abbrev Con:=Nat×List X×X
def ConOk (P:Program) (w0:World) (A:List (Array Value)) (x:Con):Prop :=
 ∀ y,Below w0.heap.size w0 y→Calls P x.1 (x.2.1.map (X.V A)).toArray y fun e w'=>e = .returned (x.2.2.V A)∧Below y.heap.size y w'
def ConsOk (P:Program) (w0:World) (A:List (Array Value)):List Con→Prop
 | []=>True
 | x::r=>ConOk P w0 A x∧ConsOk P w0 A r
theorem ConsOk.mem {P:Program} {w0:World} {A:List (Array Value)} : ∀ {l:List Con},ConsOk P w0 A l → ∀ x∈l,ConOk P w0 A x
 | _::_,h,x,hm=>by
   rcases List.mem_cons.1 hm with rfl | hm
   · exact h.1
   · exact h.2.mem x hm
abbrev Tab:=Nat×List Pc
def TabsOk (w0:World) (A:List (Array Value)):List Tab→Prop
 | []=>True
 | x::r=>(∃ t f,w0.heap[x.1]? = some (.cells (x.2.flatMap (Pc.V A)).toArray t f))∧TabsOk w0 A r
theorem TabsOk.mem {w0:World} {A:List (Array Value)} : ∀ {l:List Tab},TabsOk w0 A l → ∀ x∈l,∃ t f,w0.heap[x.1]? = some (.cells (x.2.flatMap (Pc.V A)).toArray t f)
 | _::_,h,x,hm=>by
   rcases List.mem_cons.1 hm with rfl | hm
   · exact h.1
   · exact h.2.mem x hm
def tabK (S:List Nat) (g:List Tab):List (Nat×List K):=g.map fun x=>(x.1,x.2.flatMap (Pc.K S))
abbrev Eqx:=Nat×List Pc×List Pc×Bool
def EqsOk (P:Program) (A:List (Array Value)):List Eqx→Prop
 | []=>True
 | x :: r=>(∀ w:World,(∀ op u v,(eqGuard op x.1 u v (X.V A (.ag x.2.1)) (X.V A (.ag x.2.2.1))).run P w = .ok () w) ∧
     (binOp .eql x.1 (X.V A (.ag x.2.1)) (X.V A (.ag x.2.2.1))).run P w = .ok (.bool x.2.2.2) w∧(binOp .neq x.1 (X.V A (.ag x.2.1)) (X.V A (.ag x.2.2.1))).run P w = .ok (.bool (!x.2.2.2)) w)∧EqsOk P A r
def eqxK (S:List Nat) (l:List Eqx):List (Nat×List K×List K×Bool):=l.map fun x=>(x.1,x.2.1.flatMap (Pc.K S),x.2.2.1.flatMap (Pc.K S),x.2.2.2)
def sigK (S:List Nat) (l:List Con):List (Nat×List T×T):=l.map fun x=>(x.1,x.2.1.map (X.T S),x.2.2.T S)
structure Ex where
 A:List (Array Value)
 Z:List Nat
 gl:List Tab
 cs:List Con
 eq:List Eqx
 shr:List Nat
noncomputable def Ex.gt (E:Ex) (w0:World):Gt := {l:=tabK E.Z E.gl,fx := [],rho:=R E.A,w0:=some w0}
noncomputable def Ex.c (E:Ex) (P:Program) (ti:List (Nat×TI)) (w0:World):Ctx := {P:=P,gt:=E.gt w0,ti:=ti,eqs := [],sg:=sigK E.Z E.cs,own:=some E.shr,eqx:=eqxK E.Z E.eq}
def Ex.okB (E:Ex) (P:Program) (ps:List X) (r:X):Bool:=(E.cs.all fun x=>bodyB P x.1 && (X.fit E.Z x.2.2)) && (ps.all (X.fit E.Z) && decide (E.gl.map (·.1)).Nodup)
theorem exact {P:Program} {ti:List (Nat×TI)} (hti:(ti.all fun x=>chkTi P x.1 x.2)=true) (hord:P.follows .mixedOrders=true) {f:Nat} {fn:Func} (hf:P.funcs[f]? = some fn) (E:Ex) (ps:List X) (r:X) {w0:World}
 (hA:AtomsOk E.A E.Z) (hg:TabsOk w0 E.A E.gl) (hc:ConsOk P w0 E.A E.cs) (he:EqsOk P E.A E.eq) (hb:E.okB P ps r=true) (hk:chkF (E.c P ti w0) 40 fn (ps.map (X.T E.Z)) (r.T E.Z)=true) :
 Calls P f (ps.map (X.V E.A)).toArray w0 fun e w'=>e = .returned (r.V E.A)∧Below w0.heap.size w0 w':=by
 unfold Ex.okB at hb
 simp only [Bool.and_eq_true,decide_eq_true_eq] at hb
 obtain ⟨hb1,hb2,hb3⟩:=hb
 have ok:(E.c P ti w0).Ok:=by
  refine ⟨hord,fun x hx=>chkTi_ok (List.all_eq_true.1 hti x hx),(fun x hx=>(nomatch hx)),fun x hx => ?_,fun x hx => ?_,(fun _ _ _ _ h=>by cases h),(fun _ _ _ _ _ _ _ _ _ h=>by cases h),fun _=>R_pick E.A⟩
  ·obtain ⟨y,hy,rfl⟩:=List.mem_map.1 hx
   have hcon:=hc.mem y hy
   have hent:=List.all_eq_true.1 hb1 y hy
   rw [Bool.and_eq_true] at hent
   intro σ w vs hw hv
   have hrho:σ.rho=R E.A:=hw.rho
   have hvs:vs=(y.2.1.map (X.V E.A)).toArray:=by
    have:=X.oks hA hrho y.2.1 (vs:=vs.toList) hv
    rw [← this]
   have hold:=(hw.old w0 rfl).1
   refine .inr ⟨?_,?_⟩
   ·have h1:=hent.1
    unfold bodyB at h1
    split at h1
    ·rename_i fn' hfn
     rw [Bool.and_eq_true,Bool.not_eq_true'] at h1
     obtain ⟨h1,h2⟩:=h1
     obtain ⟨bd,hbd⟩:=Option.isSome_iff_exists.1 h1
     have h2:fn'.name ≠ "runtime.NumGoroutine" := by simpa using h2
     have hfn:(E.c P ti w0).P.funcs[y.1]? = some fn':=hfn
     simp [callFunc,hfn,h2,hbd,mark]
    · cases h1
   ·rw [hvs]
    refine (hcon w hold).mono fun e w' hh => ?_
    obtain ⟨e1,e2⟩:=hh
    obtain ⟨k1,k2⟩:=hw.low e2
    exact ⟨_,e1,σ,k2,k1,X.mk hA hrho y.2.2 hent.2⟩
  ·obtain ⟨y,hy,rfl⟩:=List.mem_map.1 hx
   intro σ C D w hrho hC hD
   have hrho:σ.rho=R E.A:=hrho
   have e1:=Pcs.ok hA hrho y.2.1 hC
   have e2:=Pcs.ok hA hrho y.2.2.1 hD
   have mem : ∀ {l:List Eqx},EqsOk P E.A l→y∈l→_:=fun {l}=>by
    induction l with
    | nil=>intro _ h; cases h
    | cons z l ih =>
      intro h hm
      rcases List.mem_cons.1 hm with rfl | hm
      · exact h.1
      · exact ih h.2 hm
   have:=mem he hy w
   have a1:X.V E.A (.ag y.2.1) = .agg C:=by show Value.agg _=_; rw [← e1]
   have a2:X.V E.A (.ag y.2.2.1) = .agg D:=by show Value.agg _=_; rw [← e2]
   rw [a1,a2] at this
   exact this
 obtain ⟨σ,hσ⟩ : ∃ σ:S,σ=⟨fun b=>((tabK E.Z E.gl).find? fun x=>x.1==b).map fun x=>(false,x.2),R E.A,fun _=>0,fun _=>none⟩:=⟨_,rfl⟩
 have hrho:σ.rho=R E.A:=by rw [hσ]
 have nowr : ∀ b l,σ b≠some (true,l):=fun b l e=>by
  rw [hσ] at e
  have e:((tabK E.Z E.gl).find? fun x=>x.1==b).map (fun x=>(false,x.2))=some (true,l):=e
  rw [Option.map_eq_some_iff] at e
  obtain ⟨_,_,e⟩:=e
  cases e
 have hw:WT (E.gt w0) σ w0:=by
  refine ⟨fun v e => ?_,hrho,fun g l hl => ?_,fun g C h=>(nomatch h),fun b m l hb => ?_,fun j l hj => ?_,fun i j l l' hj => ?_,fun b m l hb => ?_⟩
  ·cases e
   exact ⟨Below.refl _ _,fun b l hb=>absurd hb (nowr b l),fun j l hj=>by rw [hσ] at hj; cases hj⟩
  ·rw [hσ]
   show ((tabK E.Z E.gl).find? fun x=>x.1==g).map (fun x=>(false,x.2))=some (false,l)
   have key : ∀ G:List Tab,(G.map (·.1)).Nodup→(g,l)∈tabK E.Z G→(tabK E.Z G).find? (fun x=>x.1==g)=some (g,l):=by
    intro G
    induction G with
    | nil=>intro _ h; cases h
    | cons x G ih =>
      intro hn hm
      simp only [List.map_cons,List.nodup_cons] at hn
      unfold tabK at hm ⊢
      rw [List.map_cons] at hm ⊢
      rcases List.mem_cons.1 hm with h | h
      · rw [List.find?_cons_of_pos (by rw [← h]; simp),h]
      ·rw [List.find?_cons_of_neg ?_]
       · exact ih hn.2 h
       ·intro hx
        refine hn.1 ?_
        obtain ⟨z,hz,e⟩:=List.mem_map.1 h
        rw [List.mem_map]
        refine ⟨z,hz,?_⟩
        have:x.1=g:=by simpa using hx
        rw [this]
        exact congrArg (·.1) e
   rw [key _ hb3 hl]
   rfl
  ·have hb':((tabK E.Z E.gl).find? fun x=>x.1==b).map (fun x=>(false,x.2))=some (m,l):=by rw [hσ] at hb; exact hb
   rw [Option.map_eq_some_iff] at hb'
   obtain ⟨y,hy,e⟩:=hb'
   cases e
   have h3:=List.mem_of_find?_eq_some hy
   have h4:y.1=b:=by simpa using List.find?_some hy
   obtain ⟨z,hz,rfl⟩:=List.mem_map.1 h3
   obtain ⟨t,f',hh⟩:=hg.mem z hz
   refine ⟨_,t,f',by rw [← h4]; exact hh,fun h=>(nomatch h),?_⟩
   simpa using Pcs.mk hA hrho z.2
  · rw [hσ] at hj; cases hj
  · rw [hσ] at hj; cases hj
  ·have hb':((tabK E.Z E.gl).find? fun x=>x.1==b).map (fun x=>(false,x.2))=some (m,l):=by rw [hσ] at hb; exact hb
   rw [Option.map_eq_some_iff] at hb'
   obtain ⟨y,hy,e⟩:=hb'
   cases e
   obtain ⟨z,_,rfl⟩:=List.mem_map.1 (List.mem_of_find?_eq_some hy)
   exact pcs_pl _ z.2
 have:=(sig_calls ok 40 hf hk (σ:=σ) hw (vs:=(ps.map (X.V E.A)).toArray) (by simpa using X.mks hA hrho ps hb2)).2
 refine this.mono fun e w' hh => ?_
 obtain ⟨v,rfl,σ',g1,g2,g3⟩:=hh
 refine ⟨?_,⟨g1.os,g1.tape,g1.output,g1.size,fun b hb=>g1.kept b hb (nowr b)⟩⟩
 rw [X.ok hA (g2.rho) r g3]
end Ab
end Go.Proofs.YtfodadedkilgdaaGreatDoor
namespace Go.Proofs.YtfodadedkilgdaaGreatDoor
open Go.RowKit
namespace Ab
abbrev U:K := .int .u64
abbrev B8:K := .int .u8
def w4:List K := [U,U,U,U]
def w8:List K := [U,U,U,U,U,U,U,U]
def w16:List K:=w8++w8
def w80:List K:=w16++w16++w16++w16++w16
def b8:List K := [B8,B8,B8,B8,B8,B8,B8,B8]
def b32:List K:=b8++b8++b8++b8
def b80:List K:=b32++b32++b8++b8
def proofK (n:Nat):List K := .ow 32 n :: .bool::b32++b32
def foundK:List K := .int .i64::b32++b80 ++ [.bool,.int .i64,.sl 1]++b32++b32++proofK 256++b32++b32++b32 ++ [.int .i64]
def signedK:List K := .int .i64::b32++b32++b32
def underK:List K:=proofK 256++signedK++b32 ++ [.ow 32 256]
def memberK:List K := .sl 1 :: .bool :: .int .i64::b32
def answerK:List K := .int .i64 :: .int .i64 :: .int .i64::foundK++b32 ++ [.ow 32 256]++underK ++ [.any,.any]++memberK ++ [.sl 1]++b32 ++ [.ow 32 256]
def tiL:List (Nat×TI) := [
 (23,{size:=1,row:=false,zero := [U],int:=some .u64}),
 (173,{size:=4,row:=true,zero:=w4,arr:=some (4,1,false)}),
 (175,{size:=16,row:=true,zero:=w16,flds:=some [(0,4),(4,4),(8,4),(12,4)]}),
 (3,{size:=1,row:=false,zero := [.int .i64],int:=some .i64}),
 (5,{size:=1,row:=false,zero := [B8],int:=some .u8}),
 (4,{size:=1,row:=false,zero := [.bool],bl:=true}),
 (31,{size:=1,row:=false,zero := [.sl 1],sl:=some 1,slz := [B8],u8:=true}),
 (213,{size:=1,row:=false,zero := [.any],sl:=some 1,slz := [U]}),
 (209,{size:=1,row:=false,zero := [.any],sl:=some 1,slz := [.sl 1]}),
 (22,{size:=32,row:=true,zero:=b32,arr:=some (32,1,false)}),
 (170,{size:=4,row:=true,zero:=w4,arr:=some (4,1,false)}),
 (223,{size:=8,row:=true,zero:=w8,arr:=some (8,1,false)}),
 (171,{size:=4,row:=true,zero:=w4,arr:=some (4,1,false)}),
 (154,{size:=1,row:=false,zero := [U],int:=some .u64}),
 (303,{size:=80,row:=true,zero:=w80,arr:=some (80,1,false)}),
 (29,{size:=1,row:=false,zero := [.int .i64],int:=some .i64}),
 (51,{size:=64,row:=true,zero:=b32++b32,arr:=some (64,1,false)}),
 (57,{size:=32,row:=true,zero:=b32,arr:=some (32,1,false)}),
 (55,{size:=80,row:=true,zero:=b80,arr:=some (80,1,false)}),
 (59,{size:=64,row:=true,zero:=b32++b32,flds:=some [(0,32),(32,32)]}),
 (61,{size:=66,row:=true,zero:=proofK 256,flds:=some [(0,1),(1,1),(2,64)]}),
 (63,{size:=343,row:=true,zero:=foundK,flds:=some [(0,1),(1,32),(33,80),(113,1),(114,1),(115,1),(116,32),(148,32),(180,66),(246,32),(278,32),(310,32),(342,1)]}),
 (53,{size:=97,row:=true,zero:=signedK,flds:=some [(0,1),(1,32),(33,64)]}),
 (65,{size:=196,row:=true,zero:=underK,flds:=some [(0,66),(66,97),(163,32),(195,1)]}),
 (69,{size:=35,row:=true,zero:=memberK,flds:=some [(0,1),(1,1),(2,1),(3,32)]}),
 (71,{size:=646,row:=true,zero:=answerK,flds:=some [(0,1),(1,1),(2,1),(3,343),(346,32),(378,1),(379,196),(575,1),(576,1),(577,35),(612,1),(613,32),(645,1)]}),
 (191,{size:=3,row:=true,zero := [.int .i64,.int .i64,.sl 1],flds:=some [(0,1),(1,1),(2,1)]}),
 (199,{size:=65,row:=true,zero := .int .i64::b32++b32,flds:=some [(0,1),(1,32),(33,32)]}),
 (348,{size:=2,row:=true,zero := [.any,.bool],flds:=some [(0,1),(1,1)]}),
 (329,{size:=2,row:=true,zero := [.sl 1,.int .i64],flds:=some [(0,1),(1,1)]}),
 (284,{size:=1,row:=false,zero := [.any],ptr:=true}),
 (314,{size:=1,row:=false,zero := [.any],ptr:=true}),
 (133,{size:=1,row:=false,zero := [.any],ptr:=true}),
 (56,{size:=1,row:=false,zero := [.ow 32 256],sl:=some 32,slz:=b32}),
 (66,{size:=1,row:=false,zero := [.any],sl:=some 3,slz := [.int .i64,.int .i64,.sl 1]}),
 (67,{size:=1,row:=false,zero := [.any],sl:=some 65,slz := .int .i64::b32++b32}),
 (365,{size:=1,row:=false,zero := [.any],sl:=some 16,slz:=w16}),
 (9,{size:=1,row:=false,zero := [.any],str:=true})]
theorem ti_all:(tiL.all fun x=>chkTi Tryz.prog x.1 x.2)=true:=by kernel_rfl
def sub64E:Array Value→Sem Value:=fun args=>do
 let (x,y,b) ← Extern.MathBitsCarry.three "Sub64" args
 pure (Extern.MathBitsCarry.pair ((x+Extern.MathBitsCarry.m64-y-b)%Extern.MathBitsCarry.m64) (if x<y+b then 1 else 0))
theorem run_sub64E {P:Program} (x y b:Nat) (hb:b≤1) (w:World) :
 (sub64E #[.int .u64 x,.int .u64 y,.int .u64 b]).run P w =
  .ok (.tuple #[.int .u64 (((x+18446744073709551616-y-b)%18446744073709551616:Nat):Int),.int .u64 ((if x<y+b then 1 else 0:Nat):Int)]) w:=by
 have:b=0∨b=1:=by omega
 rcases this with rfl | rfl <;> rfl
theorem sub64_run (x y b:Nat) (hb:b≤1) (w:World):(callFunc 144 #[.int .u64 x,.int .u64 y,.int .u64 b]).run Tryz.prog w =
 .ok (.value (.tuple #[.int .u64 (((x+18446744073709551616-y-b)%18446744073709551616:Nat):Int),.int .u64 ((if x<y+b then 1 else 0:Nat):Int)])) w:=by
 rw [run_callFunc_extern Tryz.func144 (by kernel_rfl) (by kernel_rfl) (by kernel_rfl) (e:=sub64E) (by kernel_rfl),run_sub64E x y b hb]
 rfl
theorem add64_run (x y c:Int) (hx:0≤x) (hy:0≤y) (hc0:0≤c) (hc:c≤1) (w:World):(callFunc 95 #[.int .u64 x,.int .u64 y,.int .u64 c]).run Tryz.prog w =
 .ok (.value (.tuple #[.int .u64 ((x+y+c)%18446744073709551616),.int .u64 ((x+y+c) / 18446744073709551616)])) w:=by
 rw [run_callFunc_extern Tryz.func95 (by kernel_rfl) (by kernel_rfl) (by kernel_rfl) (e:=add64Entry) (by kernel_rfl),run_add64 x y c hx hy hc0 hc]
 rfl
end Ab
end Go.Proofs.YtfodadedkilgdaaGreatDoor

/- A part of the proof. Plain; no condition. -/
import Derived.Test.YtfodadedkilgdaaGreatDoorP20
namespace Go.Proofs.YtfodadedkilgdaaGreatDoor
set_option linter.unusedVariables false
set_option linter.unusedSimpArgs false
open Go.RowKit
namespace Ab
structure Th where
 U:Type
 cl:U→List Value
 bo:Bool→U
 srt:U→Nat
 sz:Nat→Nat
 al:Nat→(U→Prop)→Prop
 one : ∀ u,∀ v∈cl u,v.oneCell'=true
 bo_cl : ∀ b,cl (bo b) = [.bool b]
 bo_srt : ∀ b,srt (bo b)=0
 srt_bo : ∀ u,srt u=0 → ∃ b,u=bo b
 len : ∀ u,(cl u).length=sz (srt u)
 al_ok : ∀ s p,al s p → ∀ u,srt u=s→p u
 ix:U→Nat→U
 isrt:Nat→Nat
 ixB:Nat→Bool
 ix_srt : ∀ u j,srt (ix u j)=isrt (srt u)
 ix_cl : ∀ u j v,ixB (srt u)=true→(cl u)[j]? = some v→cl (ix u j) = [v]
 pk:Nat→Option Nat
 pack:Nat→List U→U
 pack_srt : ∀ s us,srt (pack s us)=match pk s with | some _=>s | none=>0
 pk_sz : ∀ s e,pk s=some e→sz e=1
 pack_cl : ∀ s e us,pk s=some e→us.length=sz s→(∀ u∈us,srt u=e)→cl (pack s us)=us.flatMap cl
structure Re (H:Th) where
 ρ:List H.U
 G:List (Nat×(List H.U→H.U))
def celK (t:Tm) (n:Nat):List K:=(List.range n).map fun j=>K.cel t j
theorem celK_pl (t:Tm) (n:Nat):(celK t n).all pK=true:=List.all_eq_true.2 fun κ h=>by obtain ⟨_,_,rfl⟩:=List.mem_map.1 h; rfl
section
variable {H:Th}
def Th.bB (H:Th) (u:H.U):Bool:=match H.cl u with
 | .bool b::_=>b
 | _=>false
theorem bB_bo (b:Bool):H.bB (H.bo b)=b:=by unfold Th.bB; rw [H.bo_cl]
def Re.hd (R:Re H) (l:List H.U):H.U:=l.headD (H.bo false)
def Re.gf (R:Re H) (g:Nat) (us:List H.U):H.U:=match R.G[g]? with
 | some F=>F.2 us
 | none=>H.bo false
def Re.D (R:Re H):Tm→List H.U
 | .at i => [R.ρ.getD i (H.bo false)]
 | .bl b => [H.bo b]
 | .pick x y z => [H.bo (match H.bB (R.hd (R.D x)) with | true=>H.bB (R.hd (R.D y)) | false=>H.bB (R.hd (R.D z)))]
 | .nil => []
 | .cons x l=>R.hd (R.D x)::R.D l
 | .ap g l => [R.gf g (R.D l)]
 | .ix t j => [H.ix (R.hd (R.D t)) j]
 | .pk s l => [H.pack s (R.D l)]
def Re.D1 (R:Re H) (t:Tm):H.U:=R.hd (R.D t)
def Re.rs (R:Re H) (g:Nat):Nat:=match R.G[g]? with
 | some F=>F.1
 | none=>0
def Re.srt (R:Re H):Tm→Nat
 | .at i=>H.srt (R.ρ.getD i (H.bo false))
 | .ap g _=>R.rs g
 | .cons x _=>R.srt x
 | .ix t _=>H.isrt (R.srt t)
 | .pk s _=>match H.pk s with
   | some _=>s
   | none=>0
 | _=>0
def Re.Ok (R:Re H):Prop := ∀ F∈R.G,∀ us,H.srt (F.2 us)=F.1
def Re.rho (R:Re H) (t:Tm):List Value:=H.cl (R.D1 t)
variable {R:Re H} (hR:R.Ok)
include hR
theorem gf_is (g:Nat) (us:List H.U):H.srt (R.gf g us)=R.rs g:=by
 unfold Re.rs Re.gf
 cases h:R.G[g]? with
 | none=>exact H.bo_srt _
 | some F=>exact hR F (List.mem_of_getElem? h) us
theorem srt_is : ∀ t:Tm,H.srt (R.D1 t)=R.srt t
 | .at i=>rfl
 | .bl b=>H.bo_srt b
 | .pick .. => H.bo_srt _
 | .nil=>H.bo_srt _
 | .cons x l=>srt_is x
 | .ap g l=>gf_is hR g _
 | .ix t j=>(H.ix_srt _ _).trans (congrArg _ (srt_is t))
 | .pk s l=>H.pack_srt _ _
theorem len_D1 (t:Tm):(H.cl (R.D1 t)).length=H.sz (R.srt t):=by rw [H.len,srt_is hR]
omit hR in
theorem rho_pick:PickOk R.rho:=by
 have key : ∀ {t:Tm} {b:Bool},(R.rho t)[0]? = some (.bool b)→H.bB (R.D1 t)=b:=fun {t b} h=>by
  unfold Re.rho at h
  unfold Th.bB
  cases hh:H.cl (R.D1 t) with
  | nil=>rw [hh] at h; cases h
  | cons v r=>rw [hh] at h; cases h; rfl
 refine ⟨fun b=>by show (H.cl (H.bo b))[0]? = _; rw [H.bo_cl]; rfl,fun x y z b c hx hy => ?_⟩
 show (H.cl (H.bo (match H.bB (R.D1 x) with | true=>H.bB (R.D1 y) | false=>H.bB (R.D1 z))))[0]? = _
 rw [H.bo_cl,key hx]
 cases b with
 | true=>rw [show H.bB (R.D1 y)=c from key hy]; rfl
 | false=>rw [show H.bB (R.D1 z)=c from key hy]; rfl
section
variable {σ:S} (hr:σ.rho=R.rho)
include hr
theorem celK_ok (t:Tm):CT σ (H.cl (R.D1 t)) (celK t (H.sz (R.srt t))):=by
 have hl:=len_D1 hR t
 refine ⟨by rw [hl]; simp [celK],fun j κ hj => ?_⟩
 unfold celK at hj
 rw [List.getElem?_map,Option.map_eq_some_iff] at hj
 obtain ⟨j',hj,rfl⟩:=hj
 obtain ⟨hlt,e⟩:=List.getElem?_eq_some_iff.1 hj
 rw [List.getElem_range] at e
 rw [List.length_range] at hlt
 subst e
 have hlt':j<(H.cl (R.D1 t)).length:=by rw [hl]; exact hlt
 refine ⟨_,List.getElem?_eq_getElem hlt',?_,H.one _ _ (List.getElem_mem hlt')⟩
 rw [hr]
 exact List.getElem?_eq_getElem hlt'
theorem celK_eq (t:Tm) {C:List Value} (h:CT σ C (celK t (H.sz (R.srt t)))):C=H.cl (R.D1 t):=by
 have hl:=len_D1 hR t
 have hc:C.length=H.sz (R.srt t):=by have:=h.1; simpa [celK] using this
 refine List.ext_getElem? fun j => ?_
 rcases Nat.lt_or_ge j (H.sz (R.srt t)) with hj | hj
 ·obtain ⟨v,h1,h2⟩:=h.2 j (.cel t j) (by unfold celK; rw [List.getElem?_map,List.getElem?_range hj]; rfl)
  rw [h1]
  have:=h2.1
  rw [hr] at this
  exact this.symm
 · rw [List.getElem?_eq_none (by omega),List.getElem?_eq_none (by omega)]
end
omit hR
def kval:K→Value
 | .ci k n => .int k n
 | .cb b => .bool b
 | .nl => .slice none 0 0
 | _=>undef
def isC:K→Bool
 | .ci .. => true
 | .cb _=>true
 | .nl=>true
 | _=>false
theorem kval_eq {σ:S} {v:Value} {κ:K} (h:isC κ=true) (hv:KT σ v κ):v=kval κ:=by
 cases κ <;> first | exact hv | cases h
theorem kval_ok {σ:S} {κ:K} (h:isC κ=true):KT σ (kval κ) κ:=by
 cases κ <;> first | exact rfl | cases h
theorem kvals_eq {σ:S} : ∀ {l:List K} {C:List Value},l.all isC=true→CT σ C l→C=l.map kval
 | [],C,_,h=>List.eq_nil_of_length_eq_zero h.1
 | κ::l,C,ha,h=>by
   simp only [List.all_cons,Bool.and_eq_true] at ha
   match C,h with
   | [],h=>have:=h.1; simp at this
   | v::C,h =>
     obtain ⟨u,h1,h2⟩:=h.2 0 κ rfl
     cases h1
     rw [kval_eq ha.1 h2,kvals_eq (C:=C) ha.2 ⟨by have:=h.1; simpa using this,fun i κ' hi=>h.2 (i+1) κ' hi⟩]
     rfl
def joinC (H:Th):List H.U→List Value
 | [] => []
 | [u]=>H.cl u
 | u::r=>H.cl u++joinC H r
theorem joinC_cons (u:H.U) (r:List H.U):joinC H (u::r)=H.cl u++joinC H r:=by
 cases r with
 | nil=>simp [joinC]
 | cons v r=>rfl
def headT:K→Option Tm
 | .cel t _=>some t
 | .bt t=>some t
 | .cb b=>some (.bl b)
 | _=>none
def fitK (t:Tm) (n:Nat) (l:List K):Bool:=decide (l=celK t n) || (Nat.beq n 1 && match l with
 | [.bt t']=>Tm.beq t t'
 | [.cb b]=>Tm.beq t (.bl b)
 | _=>false)
def Re.cutA (R:Re H) (s:Nat) (l:List K):Option (Tm×List K):=match l.head? with
 | none=>none
 | some κ=>match headT κ with
   | some t=>if Nat.beq (R.srt t) s && fitK t (H.sz s) (l.take (H.sz s)) then some (t,l.drop (H.sz s)) else match κ with
     | .cel t j=>if (H.ixB (R.srt t) && Nat.beq (H.isrt (R.srt t)) s) && Nat.beq (H.sz s) 1 then some (.ix t j,l.drop (H.sz s)) else none
     | _=>none
   | none=>none
def argT (ts:List Tm):Tm:=ts.foldr .cons .nil
def Re.cutN (R:Re H) (e:Nat):List K→Option (List Tm)
 | []=>some []
 | κ::r=>match R.cutA e [κ],R.cutN e r with
   | some (t,[]),some ts=>some (t::ts)
   | _,_=>none
def Re.cut1 (R:Re H) (s:Nat) (l:List K):Option (Tm×List K):=match R.cutA s l with
 | some x=>some x
 | none=>match H.pk s with
   | some e=>match R.cutN e (l.take (H.sz s)) with
     | some ts=>if Nat.beq ts.length (H.sz s) then some (.pk s (argT ts),l.drop (H.sz s)) else none
     | none=>none
   | none=>none
def Re.cutS (R:Re H):List Nat→List K→Option (List Tm)
 | [],[]=>some []
 | s::ss,l=>match R.cut1 s l with
   | some (t,r)=>(R.cutS ss r).map (t :: ·)
   | none=>none
 | _,_=>none
theorem CT.cut' {σ:S} {C:List Value} {l:List K} (n:Nat) (h:CT σ C l):CT σ (C.take n) (l.take n)∧CT σ (C.drop n) (l.drop n):=by
 refine ⟨by simpa using h.seg 0 n,?_⟩
 have:=h.seg n l.length
 rwa [List.take_of_length_le (by rw [List.length_drop,h.1]; omega),List.take_of_length_le (by rw [List.length_drop]; omega)] at this
theorem D_arg : ∀ ts:List Tm,R.D (argT ts)=ts.map R.D1
 | []=>rfl
 | t::ts=>by
   show R.hd (R.D t)::R.D (argT ts)=_
   rw [D_arg ts]
   rfl
include hR
theorem cutA_ok {σ:S} (hr:σ.rho=R.rho) {s:Nat} {l r:List K} {t:Tm} {C:List Value} (h:R.cutA s l=some (t,r)) (hC:CT σ C l):R.srt t=s∧C.take (H.sz s)=H.cl (R.D1 t)∧r=l.drop (H.sz s):=by
 unfold Re.cutA at h
 split at h
 · cases h
 ·rename_i κ hκ
  split at h
  ·rename_i t' ht
   split at h
   ·rename_i hh
    cases h
    rw [Bool.and_eq_true] at hh
    obtain ⟨e1,e2⟩:=hh
    have e1:R.srt t=s:=Nat.eq_of_beq_eq_true e1
    subst e1
    obtain ⟨k1,k2⟩:=hC.cut' (H.sz (R.srt t))
    refine ⟨rfl,?_,rfl⟩
    unfold fitK at e2
    rw [Bool.or_eq_true,Bool.and_eq_true] at e2
    rcases e2 with e2 | ⟨e3,e2⟩
    ·rw [of_decide_eq_true e2] at k1
     exact celK_eq hR hr t k1
    ·have e3:H.sz (R.srt t)=1:=Nat.eq_of_beq_eq_true e3
     have hl:=len_D1 hR t
     have bt : ∀ v,(σ.rho t)[0]? = some v → [v]=H.cl (R.D1 t):=fun v hv=>by
      rw [hr] at hv
      have hv:(H.cl (R.D1 t))[0]? = some v:=hv
      match hc:H.cl (R.D1 t),hl with
      | [x],_=>rw [hc] at hv; cases hv; rfl
      | [],hl=>rw [e3] at hl; cases hl
      | _::_::_,hl=>rw [e3] at hl; simp at hl
     have single : ∀ {κ:K},List.take (H.sz (R.srt t)) l = [κ] → ∃ v,C.take (H.sz (R.srt t)) = [v]∧KT σ v κ:=fun {κ} e=>by
      rw [e] at k1
      obtain ⟨v,q1,q2⟩:=k1.2 0 κ rfl
      match hc:C.take (H.sz (R.srt t)),k1.1 with
      | [x],_=>rw [hc] at q1; cases q1; exact ⟨_,rfl,q2⟩
     split at e2
     ·rename_i t' e4
      have e5:=Tm.beq_iff.1 e2
      subst e5
      obtain ⟨v,q1,q2⟩:=single e4
      rw [q1]
      exact bt v q2.1
     ·rename_i b e4
      have e5:=Tm.beq_iff.1 e2
      obtain ⟨v,q1,q2⟩:=single e4
      rw [q1,show v = .bool b from q2]
      refine bt _ ?_
      rw [hr,e5]
      exact (rho_pick (R:=R)).1 b
     · cases e2
   ·split at h
    ·rename_i t2 j
     split at h
     ·rename_i hh
      cases h
      simp only [Bool.and_eq_true] at hh
      obtain ⟨⟨h1,h2⟩,h3⟩:=hh
      have h3:H.sz s=1:=Nat.eq_of_beq_eq_true h3
      refine ⟨Nat.eq_of_beq_eq_true h2,?_,rfl⟩
      obtain ⟨v,q1,q2⟩:=hC.2 0 (.cel t2 j) (by rw [← List.head?_eq_getElem?]; exact hκ)
      have q3:=q2.1
      rw [hr] at q3
      have q3:(H.cl (R.D1 t2))[j]? = some v:=q3
      have:=H.ix_cl (R.D1 t2) j v (by rw [srt_is hR]; exact h1) q3
      show _=H.cl (H.ix (R.D1 t2) j)
      rw [this,h3]
      cases C with
      | nil=>cases q1
      | cons x C=>cases q1; rfl
     · cases h
    · cases h
  · cases h
theorem cutN_ok {σ:S} (hr:σ.rho=R.rho) {e:Nat} : ∀ {l:List K} {ts:List Tm} {C:List Value},R.cutN e l=some ts→H.sz e=1→CT σ C l→C=(ts.map R.D1).flatMap H.cl ∧ ∀ t∈ts,R.srt t=e
 | [],ts,C,h,_,hC=>by cases h; exact ⟨List.eq_nil_of_length_eq_zero hC.1,fun t h=>nomatch h⟩
 | κ::l,ts,C,h,hs,hC=>by
   unfold Re.cutN at h
   split at h
   ·rename_i t ts' h1 h2
    cases h
    obtain ⟨k1,k2⟩:=hC.cut' 1
    obtain ⟨q1,q2,_⟩:=cutA_ok hR hr h1 (C:=C.take 1) (by simpa using k1)
    obtain ⟨q3,q4⟩:=cutN_ok hr h2 hs (C:=C.drop 1) (by simpa using k2)
    rw [hs,List.take_take,Nat.min_self] at q2
    refine ⟨?_,fun t' ht=>by rcases List.mem_cons.1 ht with rfl | ht; exact q1; exact q4 _ ht⟩
    rw [List.map_cons,List.flatMap_cons,← q2,← q3,List.take_append_drop]
   · cases h
theorem cut1_ok {σ:S} (hr:σ.rho=R.rho) {s:Nat} {l r:List K} {t:Tm} {C:List Value} (h:R.cut1 s l=some (t,r)) (hC:CT σ C l):R.srt t=s∧C.take (H.sz s)=H.cl (R.D1 t)∧r=l.drop (H.sz s):=by
 unfold Re.cut1 at h
 split at h
 ·rename_i x hx
  cases h
  exact cutA_ok hR hr hx hC
 ·split at h
  ·rename_i e he
   split at h
   ·rename_i ts hts
    split at h
    ·rename_i hlen
     cases h
     obtain ⟨k1,k2⟩:=cutN_ok hR hr hts (H.pk_sz s e he) (hC.cut' (H.sz s)).1
     refine ⟨by show (match H.pk s with | some _=>s | none=>0)=s; rw [he],?_,rfl⟩
     rw [k1]
     show _=H.cl (H.pack s (R.D (argT ts)))
     rw [D_arg,H.pack_cl s e _ he (by rw [List.length_map]; exact Nat.eq_of_beq_eq_true hlen) (fun u hu => ?_)]
     obtain ⟨t',ht',rfl⟩:=List.mem_map.1 hu
     rw [srt_is hR]
     exact k2 t' ht'
    · cases h
   · cases h
  · cases h
theorem cutS_ok {σ:S} (hr:σ.rho=R.rho) : ∀ {ss:List Nat} {l:List K} {ts:List Tm} {C:List Value},R.cutS ss l=some ts→CT σ C l→C=joinC H (ts.map R.D1)∧ts.map R.srt=ss
 | [],[],ts,C,h,hC=>by cases h; exact ⟨List.eq_nil_of_length_eq_zero hC.1,rfl⟩
 | s::ss,l,ts,C,h,hC=>by
   unfold Re.cutS at h
   split at h
   ·rename_i t r h1
    rw [Option.map_eq_some_iff] at h
    obtain ⟨ts',h2,rfl⟩:=h
    obtain ⟨e1,e2,rfl⟩:=cut1_ok hR hr h1 hC
    obtain ⟨k3,k4⟩:=cutS_ok hr h2 (hC.cut' (H.sz s)).2
    refine ⟨?_,by rw [List.map_cons,k4,e1]⟩
    rw [List.map_cons,joinC_cons,← k3,← e2,List.take_append_drop]
   · cases h
 | [],_::_,_,_,h,_=>by cases h
omit hR
def k1:T→Option K
 | .int k a b=>match ieq a b with
   | true=>some (.ci k a)
   | false=>none
 | .cb b=>some (.cb b)
 | .bt t=>some (.bt t)
 | .cel t j=>some (.cel t j)
 | .nl=>some .nl
 | _=>none
theorem k1_ok {σ:S} {v:Value} {τ:T} {κ:K} (hv:VT σ v τ) (h:k1 τ=some κ):KT σ v κ:=by
 cases τ <;> simp only [k1] at h
 case int k a b =>
  split at h
  ·rename_i e
   cases h
   have e:=ieq_iff.1 e
   subst e
   obtain ⟨n,rfl,h1,h2⟩:=hv
   exact congrArg _ (Int.le_antisymm h2 h1)
  · cases h
 all_goals first | (cases h; exact hv) | cases h
def Re.vK (R:Re H) (l:List Tm):List K:=l.flatMap fun t=>celK t (H.sz (R.srt t))
inductive Ih where
 | ag (ss:List Nat)
 | c (s:Nat)
 | k (κ:K)
 | z (l:List K)
 | sl (es:Nat) (ss:List Nat)
 | zs (es:Nat) (l:List K)
 | xc (t:Tm)
 | xa (l:List Tm)
def Re.matchI (R:Re H):Ih→A→Option (List Tm)
 | .ag ss,.t (.agg l)=>R.cutS ss l
 | .c s,.t τ=>match k1 τ with
   | some κ=>if H.sz s=1 then R.cutS [s] [κ] else none
   | _=>none
 | .k κ,.t τ=>match k1 τ with
   | some κ'=>if isC κ=true∧κ=κ' then some [] else none
   | _=>none
 | .z l,.t (.agg l')=>if l.all isC=true∧l=l' then some [] else none
 | .sl es ss,.rl es' l=>if es=es' then R.cutS ss l else none
 | .zs es l,.rl es' l'=>if es=es'∧l.all isC=true∧l=l' then some [] else none
 | .xc t,.t τ=>match k1 τ with
   | some κ=>if κ = .cel t 0∧H.sz (R.srt t)=1 then some [] else none
   | _=>none
 | .xa ts,.t (.agg l)=>if l=R.vK ts then some [] else none
 | _,_=>none
def Re.matchIs0 (R:Re H):List Ih→List A→Option (List Tm)
 | [],[]=>some []
 | x::r,a::azs=>match R.matchI x a,R.matchIs0 r azs with
   | some l,some m=>some (l++m)
   | _,_=>none
 | _,_=>none
def RdC (y:World) (es:Nat) (q:Option Addr) (len cap:Nat) (l:List Value):Prop :=
 ∃ b o C t f,q=some ⟨b,o,none⟩∧len≤cap∧cap≤maxLen∧len*es=l.length∧y.heap[b]? = some (.cells C t f)∧(C.toList.drop o).take l.length=l
def AlS (H:Th):List Nat→(List H.U→Prop)→Prop
 | [],p=>p []
 | s::ss,p=>H.al s fun u=>AlS H ss fun us=>p (u::us)
theorem AlS.elim : ∀ {us:List H.U} {ss:List Nat} {p:List H.U→Prop},AlS H ss p→us.length=ss.length→(∀ (i:Nat) (u:H.U),us[i]? = some u → ∀ s:Nat,ss[i]? = some s→H.srt u=s)→p us
 | [],[],p,h,_,_=>h
 | u::us,s::ss,p,h,hl,hi=>AlS.elim (p:=fun us=>p (u::us)) (H.al_ok s _ h u (hi 0 u rfl s rfl)) (by simpa using hl) (fun i v hv s' hs=>hi (i+1) v (by simpa using hv) s' (by simpa using hs))
 | [],_::_,_,_,h,_=>by simp at h
 | _::_,[],_,_,h,_=>by simp at h
def InQ0 (R:Re H) (y:World):List Ih→(List H.U→List Value→Prop)→Prop
 | [],p=>p [] []
 | .ag ss::r,p=>AlS H ss fun us=>InQ0 R y r fun us' vs=>p (us++us') (.agg (joinC H us).toArray::vs)
 | .c s::r,p=>AlS H [s] fun us=>InQ0 R y r fun us' vs=>p (us++us') ((joinC H us).headD undef::vs)
 | .k κ::r,p=>InQ0 R y r fun us' vs=>p us' (kval κ::vs)
 | .z l::r,p=>InQ0 R y r fun us' vs=>p us' (.agg (l.map kval).toArray::vs)
 | .xc t::r,p=>InQ0 R y r fun us' vs=>p us' ((H.cl (R.D1 t)).headD undef::vs)
 | .xa ts::r,p=>InQ0 R y r fun us' vs=>p us' (.agg (joinC H (ts.map R.D1)).toArray::vs)
 | .zs es l::r,p => ∀ q len cap,RdC y es q len cap (l.map kval)→InQ0 R y r fun us' vs=>p us' (.slice q len cap::vs)
 | .sl es ss::r,p=>AlS H ss fun us => ∀ q len cap,RdC y es q len cap (joinC H us)→InQ0 R y r fun us' vs=>p (us++us') (.slice q len cap::vs)
include hR
theorem vK_eq {σ:S} (hr:σ.rho=R.rho) : ∀ (l:List Tm) {C:List Value},CT σ C (R.vK l)→C=joinC H (l.map R.D1)
 | [],C,h=>List.eq_nil_of_length_eq_zero h.1
 | t::l,C,h=>by
   have h:CT σ C (celK t (H.sz (R.srt t))++R.vK l):=h
   have hl:(celK t (H.sz (R.srt t))).length=H.sz (R.srt t):=by simp [celK]
   obtain ⟨k1,k2⟩:=h.cut' (H.sz (R.srt t))
   rw [List.take_left' hl] at k1
   rw [List.drop_left' hl] at k2
   rw [List.map_cons,joinC_cons,← celK_eq hR hr t k1,← vK_eq hr l k2,List.take_append_drop]
theorem InQ0.elim {gt:Gt} {σ:S} {y:World} (hw:WT gt σ y) (hr:σ.rho=R.rho) : ∀ {ins:List Ih} {azs:List A} {ts:List Tm} {vs:List Value} {p:List H.U→List Value→Prop},InQ0 R y ins p→R.matchIs0 ins azs=some ts→VAs σ vs azs→p (ts.map R.D1) vs
 | [],[],ts,vs,p,h,hm,hv=>by
   cases hm
   obtain rfl:vs = []:=List.eq_nil_of_length_eq_zero hv.1
   exact h
 | x::r,a::azs,ts,[],p,h,hm,hv=>by have:=hv.1; simp at this
 | x::r,a::azs,ts,v::vs,p,h,hm,hv=>by
   unfold Re.matchIs0 at hm
   split at hm
   ·rename_i l m h1 h2
    cases hm
    obtain ⟨v',e,hva⟩:=hv.2 0 a rfl
    cases e
    have hvs:VAs σ vs azs:=⟨by have:=hv.1; simpa using this,fun i z hz=>by simpa using hv.2 (i+1) z (by simpa using hz)⟩
    have fin : ∀ {q:List H.U→List Value→Prop},InQ0 R y r q→q (m.map R.D1) vs:=fun hq=>InQ0.elim hw hr hq h2 hvs
    have sorts : ∀ {ss:List Nat} {ts:List Tm},ts.map R.srt=ss → ∀ (i:Nat) (u:H.U),(ts.map R.D1)[i]? = some u → ∀ s:Nat,ss[i]? = some s→H.srt u=s:=fun {ss ts} e i u hu s hs=>by
     subst e
     rw [List.getElem?_map,Option.map_eq_some_iff] at hu hs
     obtain ⟨t,ht,rfl⟩:=hu
     obtain ⟨t',ht',rfl⟩:=hs
     rw [ht] at ht'
     cases ht'
     exact srt_is hR t
    rw [List.map_append]
    unfold Re.matchI at h1
    split at h1
    ·rename_i ss lk
     obtain ⟨C,rfl,hC⟩:=hva
     obtain ⟨e1,e2⟩:=cutS_ok hR hr h1 hC
     have h:=fin (AlS.elim h (by rw [List.length_map,← e2,List.length_map]) (sorts e2))
     rw [← e1] at h
     exact h
    ·rename_i s τ
     split at h1
     ·rename_i κ hk
      split at h1
      ·rename_i hs1
       obtain ⟨e1,e2⟩:=cutS_ok hR hr h1 (CT_single (k1_ok hva hk))
       have h:=fin (AlS.elim h (by rw [List.length_map,← e2,List.length_map]) (sorts e2))
       rw [← e1] at h
       exact h
      · cases h1
     · cases h1
    ·rename_i κ τ
     split at h1
     ·rename_i κ' hk
      split at h1
      ·rename_i hh
       obtain ⟨hc,rfl⟩:=hh
       cases h1
       rw [kval_eq hc (k1_ok hva hk)]
       exact fin h
      · cases h1
     · cases h1
    ·rename_i l l'
     split at h1
     ·rename_i hh
      obtain ⟨hc,rfl⟩:=hh
      cases h1
      obtain ⟨C,rfl,hC⟩:=hva
      have h:=fin h
      rw [← kvals_eq hc hC] at h
      exact h
     · cases h1
    ·rename_i es ss es' lk
     split at h1
     ·rename_i hes
      subst hes
      obtain ⟨j,o,len,cap,rw',rfl,k1,k2,k3,k4,k5⟩:=hva
      obtain ⟨_,C,t,k6,rr,k7⟩:=hw.pvt j rw' k4
      have hC:CT σ ((C.toList.drop o).take lk.length) lk:=by
       have h0:=k7.seg o lk.length
       have hle:lk.length≤(rw'.drop o).length:=by
        have:=congrArg List.length k5
        rw [List.length_take] at this
        omega
       have e:((rw'++List.replicate rr K.wild).drop o).take lk.length=lk:=by
        rw [List.drop_append,List.take_append_of_le_length hle]
        exact k5
       rw [e] at h0
       exact h0
      obtain ⟨e1,e2⟩:=cutS_ok hR hr h1 hC
      have hlen:(joinC H (l.map R.D1)).length=lk.length:=by rw [← e1]; exact hC.1
      have h:=fin (AlS.elim h (by rw [List.length_map,← e2,List.length_map]) (sorts e2) _ len cap ⟨σ.ad j,o,C,t,(0,0),rfl,k1,k2,by rw [hlen]; exact k3,k6,by rw [hlen]; exact e1⟩)
      exact h
     · cases h1
    ·rename_i es lk es' lk'
     split at h1
     ·rename_i hes
      obtain ⟨rfl,hc,rfl⟩:=hes
      cases h1
      obtain ⟨j,o,len,cap,rw',rfl,k1,k2,k3,k4,k5⟩:=hva
      obtain ⟨_,C,t,k6,rr,k7⟩:=hw.pvt j rw' k4
      have hC:CT σ ((C.toList.drop o).take lk.length) lk:=by
       have h0:=k7.seg o lk.length
       have hle:lk.length≤(rw'.drop o).length:=by
        have:=congrArg List.length k5
        rw [List.length_take] at this
        omega
       have e:((rw'++List.replicate rr K.wild).drop o).take lk.length=lk:=by
        rw [List.drop_append,List.take_append_of_le_length hle]
        exact k5
       rw [e] at h0
       exact h0
      have e1:(C.toList.drop o).take lk.length=lk.map kval:=kvals_eq hc hC
      exact fin (h _ len cap ⟨σ.ad j,o,C,t,(0,0),rfl,k1,k2,by rw [List.length_map]; exact k3,k6,by rw [List.length_map]; exact e1⟩)
     · cases h1
    ·rename_i t τ
     split at h1
     ·rename_i κ hk
      split at h1
      ·rename_i hh
       obtain ⟨rfl,hs⟩:=hh
       cases h1
       have hl:=len_D1 hR t
       rw [hs] at hl
       have hkt:=(k1_ok hva hk).1
       rw [hr] at hkt
       have hkt:(H.cl (R.D1 t))[0]? = some v:=hkt
       have h:=fin h
       have e:(H.cl (R.D1 t)).headD undef=v:=by
        match hc:H.cl (R.D1 t),hl with
        | [x],_=>rw [hc] at hkt; cases hkt; rfl
       rw [e] at h
       exact h
      · cases h1
     · cases h1
    ·rename_i t lk
     split at h1
     ·rename_i e
      cases h1
      obtain ⟨C,rfl,hC⟩:=hva
      rw [e] at hC
      have h:=fin h
      rw [← vK_eq hR hr t hC] at h
      exact h
     · cases h1
    · cases h1
   · cases hm
 | [],_::_,_,_,_,_,hm,_=>by cases hm
 | _::_,[],_,_,_,_,hm,_=>by cases hm
omit hR
inductive Ish where
 | s (x:Ih)
 | rr (l:List Ih)
abbrev Ish.ag (ss:List Nat):Ish := .s (.ag ss)
abbrev Ish.c (s:Nat):Ish := .s (.c s)
abbrev Ish.k (κ:K):Ish := .s (.k κ)
abbrev Ish.z (l:List K):Ish := .s (.z l)
abbrev Ish.xa (l:List Tm):Ish := .s (.xa l)
def P1.a:P1→A
 | .t κ => .t (ofK κ)
 | .r es l => .rl es l
def Re.matchIs (R:Re H):List Ish→List A→Option (List Tm)
 | [],[]=>some []
 | .s x::r,a::azs=>match R.matchI x a,R.matchIs r azs with
   | some l,some m=>some (l++m)
   | _,_=>none
 | .rr l::r,.rr ps::azs=>match R.matchIs0 l (ps.map P1.a),R.matchIs r azs with
   | some l,some m=>some (l++m)
   | _,_=>none
 | _,_=>none
def InQ (R:Re H) (y:World):List Ish→(List H.U→List Value→Prop)→Prop
 | [],p=>p [] []
 | .s x::r,p=>InQ0 R y [x] fun us vs=>InQ R y r fun us' vs'=>p (us++us') (vs++vs')
 | .rr l::r,p=>InQ0 R y l fun us pv => ∀ q len cap,RdC y 1 q len cap pv→InQ R y r fun us' vs'=>p (us++us') (.slice q len cap::vs')
include hR
theorem InQ.elim {gt:Gt} {σ:S} {y:World} (hw:WT gt σ y) (hr:σ.rho=R.rho) : ∀ {ins:List Ish} {azs:List A} {ts:List Tm} {vs:List Value} {p:List H.U→List Value→Prop},InQ R y ins p→R.matchIs ins azs=some ts→VAs σ vs azs→p (ts.map R.D1) vs
 | [],[],ts,vs,p,h,hm,hv=>by
   cases hm
   obtain rfl:vs = []:=List.eq_nil_of_length_eq_zero hv.1
   exact h
 | x::r,a::azs,ts,[],p,h,hm,hv=>by have:=hv.1; simp at this
 | .s x::r,a::azs,ts,v::vs,p,h,hm,hv=>by
   unfold Re.matchIs at hm
   split at hm
   ·rename_i l m h1 h2
    cases hm
    obtain ⟨v',e,hva⟩:=hv.2 0 a rfl
    cases e
    have hvs:VAs σ vs azs:=⟨by have:=hv.1; simpa using this,fun i z hz=>by simpa using hv.2 (i+1) z (by simpa using hz)⟩
    have h0:=InQ0.elim hR hw hr (ins := [x]) (azs := [a]) (ts:=l) (vs := [v]) h (by unfold Re.matchIs0; rw [h1]; simp [Re.matchIs0]) ⟨rfl,fun i z hz=>by
     cases i with
     | zero=>cases hz; exact ⟨_,rfl,hva⟩
     | succ i=>simp at hz⟩
    rw [List.map_append]
    exact InQ.elim hw hr h0 h2 hvs
   · cases hm
 | .rr l::r,.rr ps::azs,ts,v::vs,p,h,hm,hv=>by
   unfold Re.matchIs at hm
   split at hm
   ·rename_i l' m h1 h2
    cases hm
    obtain ⟨v',e,hva⟩:=hv.2 0 (.rr ps) rfl
    cases e
    have hvs:VAs σ vs azs:=⟨by have:=hv.1; simpa using this,fun i z hz=>by simpa using hv.2 (i+1) z (by simpa using hz)⟩
    obtain ⟨j,o,len,cap,r',rfl,k1,k2,k3,k4,k5,k6⟩:=hva
    obtain ⟨_,C,t,g1,rr,g2⟩:=hw.pvt j r' k4
    have hC:CT σ ((C.toList.drop o).take len) ((r'.drop o).take len):=by
     have h0:=g2.seg o len
     have hle:len≤(r'.drop o).length:=by
      rw [List.length_take] at k5
      omega
     rwa [List.drop_append,List.take_append_of_le_length hle] at h0
    have hlen:((C.toList.drop o).take len).length=len:=hC.1.trans k5
    have h0:=InQ0.elim hR hw hr h h1 (vs:=(C.toList.drop o).take len) ⟨by rw [hlen,List.length_map,k3],fun i z hz=>by
     rw [List.getElem?_map,Option.map_eq_some_iff] at hz
     obtain ⟨q,hq,rfl⟩:=hz
     obtain ⟨κ,q1,q2⟩:=k6 i q hq
     obtain ⟨u,q3,q4⟩:=hC.2 i κ q1
     refine ⟨u,q3,?_⟩
     cases q with
     | t κ'=>cases q2; exact ofK_ok q4
     | r es lk =>
       obtain ⟨j',o',len',r'',rfl,p1,p2,p3⟩:=q2
       obtain ⟨cap',e1,e2,e3,_⟩:=q4
       exact ⟨j',o',len',cap',r'',e1,e2,e3,p1,p2,p3⟩⟩
    rw [List.map_append]
    exact InQ.elim hw hr (h0 _ len cap ⟨σ.ad j,o,C,t,(0,0),rfl,k1,k2,by rw [hlen,Nat.mul_one],g1,by rw [hlen]⟩) h2 hvs
   · cases hm
 | .rr _::_,.t _::_,_,_::_,_,_,hm,_=>by cases hm
 | .rr _::_,.rl .. :: _,_,_::_,_,_,hm,_=>by cases hm
 | [],_::_,_,_,_,_,hm,_=>by cases hm
 | .s _::_,[],_,_,_,_,hm,_=>by cases hm
 | .rr _::_,[],_,_,_,_,hm,_=>by cases hm
omit hR
inductive Vsh where
 | ag (l:List Tm)
 | c (t:Tm)
 | b (t:Tm)
 | k (κ:K)
 | z (l:List K)
 | np
 | fs (es:Nat) (l:List Tm)
 | t2 (x y:Vsh)
 | t3 (x y u:Vsh)
def Re.vT (R:Re H) (n:Nat):Vsh→T
 | .ag l => .agg (R.vK l)
 | .c t => .cel t 0
 | .b t => .bt t
 | .k κ=>ofK κ
 | .z l => .agg l
 | .np => .np
 | .fs es l => .os n 0 ((R.vK l).length / es) none
 | .t2 x y => .t2 (R.vT n x) (R.vT n y)
 | .t3 x y u => .t3 (R.vT n x) (R.vT n y) (R.vT n u)
def Re.vV (R:Re H) (s:Value):Vsh→Value
 | .ag l => .agg (joinC H (l.map R.D1)).toArray
 | .c t=>(H.cl (R.D1 t)).headD undef
 | .b t => .bool (H.bB (R.D1 t))
 | .k κ=>kval κ
 | .z l => .agg (l.map kval).toArray
 | .np => .pointer none
 | .fs _ _=>s
 | .t2 x y => .tuple #[R.vV s x,R.vV s y]
 | .t3 x y u => .tuple #[R.vV s x,R.vV s y,R.vV s u]
def Re.vB (R:Re H):Vsh→Bool
 | .c t=>Nat.beq (H.sz (R.srt t)) 1
 | .b t=>Nat.beq (R.srt t) 0
 | .k κ=>isC κ
 | .z l=>l.all isC
 | .t2 x y=>R.vB x && R.vB y
 | .t3 x y u=>R.vB x && (R.vB y && R.vB u)
 | _=>true
def Vsh.fr:Vsh→List (Nat×List Tm)
 | .fs es l => [(es,l)]
 | .t2 x y=>x.fr++y.fr
 | .t3 x y w=>x.fr++(y.fr++w.fr)
 | _ => []
include hR
theorem vK_ok {σ:S} (hr:σ.rho=R.rho) : ∀ l:List Tm,CT σ (joinC H (l.map R.D1)) (R.vK l)
 | []=>⟨rfl,fun i κ h=>by simp [Re.vK] at h⟩
 | t::l=>by
   rw [List.map_cons,joinC_cons]
   have h1:=celK_ok hR hr t
   have h2:=vK_ok hr l
   show CT σ _ (celK t (H.sz (R.srt t))++R.vK l)
   refine ⟨by simp [h1.1,h2.1],fun i κ hi => ?_⟩
   rcases Nat.lt_or_ge i (celK t (H.sz (R.srt t))).length with hl | hl
   ·rw [List.getElem?_append_left hl] at hi
    obtain ⟨v,k1,k2⟩:=h1.2 i κ hi
    exact ⟨v,by rw [List.getElem?_append_left (by rw [h1.1]; exact hl)]; exact k1,k2⟩
   ·rw [List.getElem?_append_right hl] at hi
    obtain ⟨v,k1,k2⟩:=h2.2 _ κ hi
    exact ⟨v,by rw [List.getElem?_append_right (by rw [h1.1]; exact hl),h1.1]; exact k1,k2⟩
theorem one_cell {t:Tm} (h:H.sz (R.srt t)=1) : ∃ v,H.cl (R.D1 t) = [v]:=by
 have hl:=len_D1 hR t
 rw [h] at hl
 match hc:H.cl (R.D1 t),hl with
 | [v],_=>exact ⟨v,rfl⟩
theorem vV_ok {σ:S} (hr:σ.rho=R.rho) {n:Nat} {s:Value} : ∀ v:Vsh,R.vB v=true→(∀ x∈v.fr,VT σ s (R.vT n (.fs x.1 x.2)))→VT σ (R.vV s v) (R.vT n v)
 | .ag l,_,_=>⟨_,rfl,by simpa using vK_ok hR hr l⟩
 | .c t,h,_=>by
   obtain ⟨v,hv⟩:=one_cell hR (Nat.eq_of_beq_eq_true h)
   have e:R.vV s (.c t)=v:=by show (H.cl (R.D1 t)).headD undef=v; rw [hv]; rfl
   rw [e]
   refine ⟨?_,H.one (R.D1 t) v (by rw [hv]; simp)⟩
   rw [hr]
   show (H.cl (R.D1 t))[0]? = _
   rw [hv]
   rfl
 | .b t,h,_=>by
   obtain ⟨b,hb⟩:=H.srt_bo _ (by rw [srt_is hR t,Nat.eq_of_beq_eq_true h])
   have e:R.vV s (.b t) = .bool b:=by show Value.bool (H.bB (R.D1 t))=_; rw [hb,bB_bo]
   rw [e]
   refine ⟨?_,b,rfl⟩
   rw [hr]
   show (H.cl (R.D1 t))[0]? = _
   rw [hb,H.bo_cl]
   rfl
 | .k κ,h,_=>ofK_ok (kval_ok h)
 | .z l,h,_=>⟨_,rfl,by
   have key : ∀ l:List K,l.all isC=true→CT σ (l.map kval) l:=by
    intro l h
    refine ⟨by simp,fun i κ hi=>⟨kval κ,by rw [List.getElem?_map,hi]; rfl,kval_ok (List.all_eq_true.1 h κ (List.mem_of_getElem? hi))⟩⟩
   simpa using key l h⟩
 | .np,_,_=>rfl
 | .fs es l,_,hs=>hs (es,l) (by simp [Vsh.fr])
 | .t2 x y,h,hs=>by
   simp only [Re.vB,Bool.and_eq_true] at h
   exact ⟨_,_,rfl,vV_ok hr x h.1 (fun e he=>hs e (List.mem_append_left _ he)),vV_ok hr y h.2 (fun e he=>hs e (List.mem_append_right _ he))⟩
 | .t3 x y u,h,hs=>by
   simp only [Re.vB,Bool.and_eq_true] at h
   exact ⟨_,_,_,rfl,vV_ok hr x h.1 (fun e he=>hs e (List.mem_append_left _ he)),vV_ok hr y h.2.1 (fun e he=>hs e (List.mem_append_right _ (List.mem_append_left _ he))),vV_ok hr u h.2.2 (fun e he=>hs e (List.mem_append_right _ (List.mem_append_right _ he)))⟩
omit hR
inductive Osh where
 | ag (gs:List Nat)
 | c (g:Nat)
 | b (g:Nat)
 | k (κ:K)
 | z (l:List K)
 | np
 | fs (es:Nat) (gs:List Nat)
 | xa (l:List Tm)
 | xc (t:Tm)
 | t2 (x y:Osh)
 | t3 (x y u:Osh)
def Osh.v (a:Tm):Osh→Vsh
 | .ag gs => .ag (gs.map fun g => .ap g a)
 | .c g => .c (.ap g a)
 | .b g => .b (.ap g a)
 | .k κ => .k κ
 | .z l => .z l
 | .np => .np
 | .fs es gs => .fs es (gs.map fun g => .ap g a)
 | .xa l => .ag l
 | .xc t => .c t
 | .t2 x y => .t2 (x.v a) (y.v a)
 | .t3 x y w => .t3 (x.v a) (y.v a) (w.v a)
def Re.oV (R:Re H) (us:List H.U) (s:Value):Osh→Value
 | .ag gs => .agg (joinC H (gs.map fun g=>R.gf g us)).toArray
 | .c g=>(H.cl (R.gf g us)).headD undef
 | .b g => .bool (H.bB (R.gf g us))
 | .k κ=>kval κ
 | .z l => .agg (l.map kval).toArray
 | .np => .pointer none
 | .fs _ _=>s
 | .xa l => .agg (joinC H (l.map R.D1)).toArray
 | .xc t=>(H.cl (R.D1 t)).headD undef
 | .t2 x y => .tuple #[R.oV us s x,R.oV us s y]
 | .t3 x y w => .tuple #[R.oV us s x,R.oV us s y,R.oV us s w]
def Osh.fr:Osh→List (Nat×List Nat)
 | .fs es l => [(es,l)]
 | .t2 x y=>x.fr++y.fr
 | .t3 x y w=>x.fr++(y.fr++w.fr)
 | _ => []
theorem oV_v (s:Value) (ts:List Tm) : ∀ o:Osh,R.vV s (o.v (argT ts))=R.oV (ts.map R.D1) s o:=by
 have e : ∀ g,R.D1 (.ap g (argT ts))=R.gf g (ts.map R.D1):=fun g=>by
  show R.hd [R.gf g (R.D (argT ts))]=_
  rw [D_arg]
  rfl
 intro o
 induction o with
 | ag gs=>simp only [Osh.v,Re.vV,Re.oV,List.map_map]; congr 4; funext g; exact e g
 | c g=>simp only [Osh.v,Re.vV,Re.oV,e]
 | b g=>simp only [Osh.v,Re.vV,Re.oV,e]
 | t2 x y ihx ihy=>simp only [Osh.v,Re.vV,Re.oV,ihx,ihy]
 | t3 x y w ihx ihy ihw=>simp only [Osh.v,Re.vV,Re.oV,ihx,ihy,ihw]
 | _=>rfl
theorem fr_v (a:Tm) : ∀ o:Osh,(o.v a).fr=o.fr.map fun x=>(x.1,x.2.map fun g=>Tm.ap g a):=by
 intro o
 induction o with
 | t2 x y ihx ihy=>simp only [Osh.v,Vsh.fr,Osh.fr,ihx,ihy,List.map_append]
 | t3 x y w ihx ihy ihw=>simp only [Osh.v,Vsh.fr,Osh.fr,ihx,ihy,ihw,List.map_append]
 | _=>rfl
structure Fm where
 f:Nat
 i:List Ish
 o:Osh
def OutQ (R:Re H) (o:Osh) (us:List H.U) (y:World) (e:Ending) (w':World):Prop:=match o.fr with
 | []=>e = .returned (R.oV us undef o)∧Below y.heap.size y w'
 | x::_ => ∃ b C t len cap,e = .returned (R.oV us (.slice (some ⟨b,0,none⟩) len cap) o)∧y.heap.size≤b∧len≤cap∧cap≤maxLen∧len*x.1=(joinC H (x.2.map fun g=>R.gf g us)).length∧w'.heap[b]? = some (.cells C t (0,0))∧C.toList.take (joinC H (x.2.map fun g=>R.gf g us)).length=joinC H (x.2.map fun g=>R.gf g us)∧Below y.heap.size y w'
def FmOk (P:Program) (w0:World) (R:Re H) (x:Fm):Prop :=
 ∀ y,Below w0.heap.size w0 y→InQ R y x.i fun us vs=>Calls P x.f vs.toArray y fun e w'=>OutQ R x.o us y e w'
def FmsOk (P:Program) (w0:World) (R:Re H):List Fm→Prop
 | []=>True
 | x::r=>FmOk P w0 R x∧FmsOk P w0 R r
structure Om where
 key:Op→Bool
 i:List Ish
 o:Osh
def OmOk (P:Program) (w0:World) (R:Re H) (x:Om):Prop :=
 ∀ y,Below w0.heap.size w0 y→InQ R y x.i fun us vs => ∀ (a:Act) (o:Oper),x.key o.op=true→o.op.operands.toList.map a.eval=vs → ∃ v w',(execOp a.eval o).run P y = .ok (.value v) w'∧OutQ R x.o us y (.returned v) w'
def OmsOk (P:Program) (w0:World) (R:Re H):List Om→Prop
 | []=>True
 | x::r=>OmOk P w0 R x∧OmsOk P w0 R r
def Re.fam0 (R:Re H) (o:Osh) (ts:List Tm):Option ((Nat→T)×Option (List K)):=match R.vB (o.v (argT ts)),o.fr with
 | true,[]=>some (fun n=>R.vT n (o.v (argT ts)),none)
 | true,[(es,gs)]=>if 0<es then some (fun n=>R.vT n (o.v (argT ts)),some (R.vK (gs.map fun g => .ap g (argT ts)))) else none
 | _,_=>none
def Re.fam1 (R:Re H) (azs:List A) (x:Fm):Option ((Nat→T)×Option (List K)):=match R.matchIs x.i azs with
 | some ts=>R.fam0 x.o ts
 | none=>none
def Re.fam (R:Re H) (f:Nat) (azs:List A):List Fm→Option ((Nat→T)×Option (List K))
 | []=>none
 | x::r=>match Nat.beq x.f f with
   | true=>match R.fam1 azs x with
     | some y=>some y
     | none=>R.fam f azs r
   | false=>R.fam f azs r
def Re.opm (R:Re H) (o:Op) (azs:List A):List Om→Option ((Nat→T)×Option (List K))
 | []=>none
 | x::r=>match x.key o with
   | true=>match R.matchIs x.i azs with
     | some ts=>match R.fam0 x.o ts with
       | some y=>some y
       | none=>R.opm o azs r
     | none=>R.opm o azs r
   | false=>R.opm o azs r
def bodyB (P:Program) (f:Nat):Bool:=match P.funcs[f]? with
 | some fn=>fn.body.isSome && !(fn.name == "runtime.NumGoroutine")
 | none=>false
theorem enter_ok {P:Program} {f:Nat} (h:bodyB P f=true) (vs:Array Value) (w:World):(callFunc f vs).run P w = .ok (.enter f vs) w:=by
 unfold bodyB at h
 split at h
 ·rename_i fn' hfn
  rw [Bool.and_eq_true,Bool.not_eq_true'] at h
  obtain ⟨h1,h2⟩:=h
  obtain ⟨bd,hbd⟩:=Option.isSome_iff_exists.1 h1
  have h2:fn'.name ≠ "runtime.NumGoroutine" := by simpa using h2
  simp [callFunc,hfn,h2,hbd,mark]
 · cases h
include hR
theorem fam0_ok {gt:Gt} {σ:S} {w w':World} (hr:σ.rho=R.rho) {o:Osh} {ts:List Tm} {x:Ending} {F:Nat→T} {e:Option (List K)} (hy:R.fam0 o ts=some (F,e)) (ho:OutQ R o (ts.map R.D1) w x w') : ∃ v,x = .returned v∧Below w.heap.size w w'∧OAns gt σ w v w' F e:=by
 unfold OutQ at ho
 unfold Re.fam0 at hy
 split at hy
 ·rename_i hvb hfr
  cases hy
  rw [hfr] at ho
  obtain ⟨e1,hbel⟩:=ho
  refine ⟨_,e1,hbel,?_⟩
  have:=vV_ok hR hr (n:=0) (s:=undef) _ hvb (by rw [fr_v,hfr]; intro x hx; cases hx)
  rw [oV_v] at this
  exact this
 ·rename_i es gs hvb hfr
  split at hy
  ·rename_i hes
   cases hy
   rw [hfr] at ho
   obtain ⟨b,C,t,len,cap,e1,k1,k2,k3,k4,k5,k6,hbel⟩:=ho
   dsimp only at k4 k6
   have eK:gs.map (fun g=>R.gf g (ts.map R.D1))=(gs.map fun g=>Tm.ap g (argT ts)).map R.D1:=by
    rw [List.map_map]
    refine List.map_congr_left fun g _ => ?_
    show _=R.hd [R.gf g (R.D (argT ts))]
    rw [D_arg]
    rfl
   rw [eK] at k4 k6
   have hC:=vK_ok hR hr (gs.map fun g=>Tm.ap g (argT ts))
   refine ⟨_,e1,hbel,b,C,t,k1,k5,?_,fun σ' n hle hrr hn hpv => ?_⟩
   ·refine ⟨C.toList.length-(joinC H ((gs.map fun g=>Tm.ap g (argT ts)).map R.D1)).length,?_⟩
    have hlen:=hC.1
    rw [← k6] at hC
    have hle:(joinC H ((gs.map fun g=>Tm.ap g (argT ts)).map R.D1)).length≤C.toList.length:=by
     have:=congrArg List.length k6
     rw [List.length_take] at this
     omega
    refine ⟨by rw [List.length_append,List.length_replicate,← hlen]; omega,fun i κ hi => ?_⟩
    rw [List.getElem?_append] at hi
    split at hi
    ·rename_i hil
     obtain ⟨v,q1,q2⟩:=hC.2 i κ hi
     rw [List.getElem?_take] at q1
     split at q1
     · exact ⟨v,q1,q2⟩
     · cases q1
    ·rw [List.getElem?_replicate] at hi
     split at hi
     ·cases hi
      have:i<C.toList.length:=by omega
      exact ⟨_,List.getElem?_eq_getElem this,trivial⟩
     · cases hi
   ·have hr':σ'.rho=R.rho:=hrr.trans hr
    have:=vV_ok hR hr' (n:=n) (s := .slice (some ⟨b,0,none⟩) len cap) _ hvb (by
     rw [fr_v,hfr]
     intro x hx
     simp only [List.map_cons,List.map_nil,List.mem_singleton] at hx
     subst hx
     have hlen:=hC.1
     have el:(R.vK (gs.map fun g=>Tm.ap g (argT ts))).length / es=len:=by
      rw [← hlen,← k4]
      exact Nat.mul_div_cancel _ hes
     refine ⟨cap,by rw [hn,← el],by rw [← el] at k2; exact k2,k3,(fun k hk=>by cases hk),_,hpv⟩)
    rw [oV_v] at this
    exact this
  · cases hy
 · cases hy
theorem fam_ok {P:Program} {w0:World} {gt:Gt} (hg:gt.rho=R.rho) (hg0:gt.w0=some w0) : ∀ {l:List Fm},(l.all fun x=>bodyB P x.f)=true→FmsOk P w0 R l → ∀ f azs F e,R.fam f azs l=some (F,e)→OSigOk P gt f azs F e
 | x::l,hb,hf,f,azs,F,e,h=>by
   simp only [List.all_cons,Bool.and_eq_true] at hb
   unfold Re.fam at h
   have rest:=fam_ok hg hg0 (l:=l) hb.2 hf.2 f azs F e
   split at h
   ·rename_i hxf
    have hxf:x.f=f:=Nat.eq_of_beq_eq_true hxf
    split at h
    ·rename_i y hy
     cases h
     unfold Re.fam1 at hy
     split at hy
     ·rename_i ts hts
      intro σ w vs hw hv
      have hr:σ.rho=R.rho:=hw.rho.trans hg
      refine ⟨enter_ok (by rw [← hxf]; exact hb.1) vs w,?_⟩
      have hq:=InQ.elim hR hw hr (hf.1 w (hw.old w0 hg0).1) hts hv
      rw [← hxf]
      have hvs:vs.toList.toArray=vs:=by simp
      rw [hvs] at hq
      exact hq.mono fun e' w' ho=>fam0_ok hR hr hy ho
     · cases hy
    · exact rest h
   · exact rest h
theorem opm_ok {P:Program} {w0:World} {gt:Gt} (hg:gt.rho=R.rho) (hg0:gt.w0=some w0) : ∀ {l:List Om},OmsOk P w0 R l→OofOk P gt fun o azs=>R.opm o azs l
 | [],_,σ,w,a,o,azs,F,e,hw,hv,h=>by cases h
 | x::l,hf,σ,w,a,o,azs,F,e,hw,hv,h=>by
   have rest:=opm_ok hg hg0 (l:=l) hf.2 σ w a o azs F e hw hv
   have h:R.opm o.op azs (x::l)=some (F,e):=h
   unfold Re.opm at h
   split at h
   ·rename_i hk
    split at h
    ·rename_i ts hts
     split at h
     ·rename_i y hy
      cases h
      have hr:σ.rho=R.rho:=hw.rho.trans hg
      obtain ⟨v,w',h1,h2⟩:=InQ.elim hR hw hr (hf.1 w (hw.old w0 hg0).1) hts hv a o hk rfl
      obtain ⟨v',e1,e2⟩:=fam0_ok hR hr (gt:=gt) hy h2
      cases e1
      exact ⟨v,w',h1,e2⟩
     · exact rest h
    · exact rest h
   · exact rest h
omit hR
inductive Pz where
 | a (t:Tm)
 | v (κ:K)
 | b (t:Tm)
 | s (j o len:Nat)
def Pz.sl:Pz→List (Nat×Nat×Nat)
 | .s j o len => [(j,o,len)]
 | _ => []
def Re.pv (R:Re H) (s:Value):Pz→List Value
 | .a t=>H.cl (R.D1 t)
 | .v κ => [kval κ]
 | .b t => [.bool (H.bB (R.D1 t))]
 | .s _ _ _ => [s]
def Re.joinP (R:Re H) (s:Value):List Pz→List Value
 | [] => []
 | [p]=>R.pv s p
 | p::r=>R.pv s p++R.joinP s r
theorem joinP_cons (s:Value) (p:Pz) (r:List Pz):R.joinP s (p::r)=R.pv s p++R.joinP s r:=by
 cases r with
 | nil=>simp [Re.joinP]
 | cons q r=>rfl
def Re.rb1 (R:Re H):K→Option Pz
 | .cel t j=>if Nat.beq j 0 && Nat.beq (H.sz (R.srt t)) 1 then some (.a t) else if H.ixB (R.srt t) then some (.a (.ix t j)) else none
 | .bt t=>if Nat.beq (R.srt t) 0 then some (.b t) else none
 | .os j o len=>some (.s j o len)
 | κ=>if isC κ then some (.v κ) else none
def Re.rbP (R:Re H):Nat→List K→Option (List Pz)
 | 0,l=>if l.isEmpty then some [] else none
 | n+1,l=>match l.head? with
   | none=>some []
   | some κ=>match κ with
     | .cel t 0=>if Nat.ble 1 (H.sz (R.srt t)) && decide (l.take (H.sz (R.srt t))=celK t (H.sz (R.srt t))) then (R.rbP n (l.drop (H.sz (R.srt t)))).map (.a t :: ·) else match R.rb1 (.cel t 0),R.rbP n (l.drop 1) with
       | some p,some r=>some (p::r)
       | _,_=>none
     | κ=>match R.rb1 κ,R.rbP n (l.drop 1) with
       | some p,some r=>some (p::r)
       | _,_=>none
inductive Vp where
 | ag (l:List Pz)
 | one (p:Pz)
 | np
 | t2 (x y:Vp)
 | t3 (x y u:Vp)
def Re.rbT (R:Re H):T→Option Vp
 | .agg l=>(R.rbP l.length l).map .ag
 | .np=>some .np
 | .os j o len _=>some (.one (.s j o len))
 | .t2 x y=>match R.rbT x,R.rbT y with
   | some p,some q=>some (.t2 p q)
   | _,_=>none
 | .t3 x y u=>match R.rbT x,R.rbT y,R.rbT u with
   | some p,some q,some r=>some (.t3 p q r)
   | _,_,_=>none
 | τ=>match k1 τ with
   | some κ=>(R.rb1 κ).map .one
   | none=>none
def Re.vp (R:Re H) (s:Value):Vp→Value
 | .ag l => .agg (R.joinP s l).toArray
 | .one p=>(R.pv s p).headD undef
 | .np => .pointer none
 | .t2 x y => .tuple #[R.vp s x,R.vp s y]
 | .t3 x y u => .tuple #[R.vp s x,R.vp s y,R.vp s u]
def Vp.sl:Vp→List (Nat×Nat×Nat)
 | .ag l=>l.flatMap Pz.sl
 | .one p=>p.sl
 | .np => []
 | .t2 x y=>x.sl++y.sl
 | .t3 x y u=>x.sl++(y.sl++u.sl)
def SlIs (σ:S) (s:Value) (x:Nat×Nat×Nat):Prop := ∃ cap,s = .slice (some ⟨σ.ad x.1,x.2.1,none⟩) x.2.2 cap∧x.2.2≤cap∧cap≤maxLen ∧ ∃ l,σ.pv x.1=some l
def One (σ:S) (l:List (Nat×Nat×Nat)) (p:Value→Prop):Prop:=(l = [] → ∀ s,p s) ∧ ∀ x,l = [x] → ∃ s,SlIs σ s x∧p s
theorem One.both {σ:S} {l m:List (Nat×Nat×Nat)} {p q r:Value→Prop} (h:One σ l p) (h':One σ m q) (hr : ∀ s,p s→q s→r s):One σ (l++m) r:=by
 refine ⟨fun e s => ?_,fun x e => ?_⟩
 ·obtain ⟨e1,e2⟩:=List.append_eq_nil_iff.1 e
  exact hr s (h.1 e1 s) (h'.1 e2 s)
 ·rcases List.append_eq_singleton_iff.1 e with ⟨e1,e2⟩ | ⟨e1,e2⟩
  ·obtain ⟨s,k1,k2⟩:=h'.2 x e2
   exact ⟨s,k1,hr s (h.1 e1 s) k2⟩
  ·obtain ⟨s,k1,k2⟩:=h.2 x e1
   exact ⟨s,k1,hr s k2 (h'.1 e2 s)⟩
theorem One.none {σ:S} {p:Value→Prop} (h : ∀ s,p s):One σ [] p:=⟨fun _=>h,fun x e=>nomatch e⟩
include hR
theorem rb1_ok {σ:S} (hr:σ.rho=R.rho) {κ:K} {p:Pz} {v:Value} (h:R.rb1 κ=some p) (hv:KT σ v κ):One σ p.sl fun s => [v]=R.pv s p:=by
 unfold Re.rb1 at h
 split at h
 ·rename_i t j
  have h1:=hv.1
  rw [hr] at h1
  have h1:(H.cl (R.D1 t))[j]? = some v:=h1
  split at h
  ·rename_i hs
   cases h
   rw [Bool.and_eq_true] at hs
   have h0:j=0:=Nat.eq_of_beq_eq_true hs.1
   subst h0
   obtain ⟨u,hu⟩:=one_cell hR (Nat.eq_of_beq_eq_true hs.2)
   refine One.none fun s => ?_
   show [v]=H.cl (R.D1 t)
   rw [hu] at h1 ⊢
   cases h1
   rfl
  ·split at h
   ·rename_i hs
    cases h
    exact One.none fun s=>(H.ix_cl (R.D1 t) j v (by rw [srt_is hR]; exact hs) h1).symm
   · cases h
 ·rename_i t
  split at h
  ·rename_i hs
   cases h
   obtain ⟨b,hb⟩:=H.srt_bo _ (by rw [srt_is hR t,Nat.eq_of_beq_eq_true hs])
   refine One.none fun s => ?_
   have h1:=hv.1
   rw [hr] at h1
   have h1:(H.cl (R.D1 t))[0]? = some v:=h1
   show [v] = [.bool (H.bB (R.D1 t))]
   rw [hb,H.bo_cl] at h1
   rw [hb,bB_bo]
   cases h1
   rfl
  · cases h
 ·rename_i j o len
  cases h
  exact ⟨fun e=>(by cases e),fun x e=>(by cases e; exact ⟨v,hv,rfl⟩)⟩
 ·split at h
  ·rename_i hc
   cases h
   exact One.none fun s=>by show [v] = [kval _]; rw [kval_eq hc hv]
  · cases h
theorem rbP_ok {σ:S} (hr:σ.rho=R.rho) : ∀ {n:Nat} {l:List K} {ps:List Pz} {C:List Value},R.rbP n l=some ps→CT σ C l→One σ (ps.flatMap Pz.sl) fun s=>C=R.joinP s ps
 | 0,l,ps,C,h,hC=>by
   unfold Re.rbP at h
   split at h
   ·rename_i hl
    cases h
    rw [List.isEmpty_iff.1 hl] at hC
    exact One.none fun s=>List.eq_nil_of_length_eq_zero hC.1
   · cases h
 | n+1,l,ps,C,h,hC=>by
   unfold Re.rbP at h
   split at h
   ·rename_i hl
    cases h
    rw [List.head?_eq_none_iff.1 hl] at hC
    exact One.none fun s=>List.eq_nil_of_length_eq_zero hC.1
   ·rename_i κ hl
    have single:(match R.rb1 κ,R.rbP n (l.drop 1) with | some p,some r=>some (p::r) | _,_=>none)=some ps→One σ (ps.flatMap Pz.sl) fun s=>C=R.joinP s ps:=fun h=>by
     split at h
     ·rename_i p r h1 h2
      cases h
      obtain ⟨k1,k2⟩:=hC.cut' 1
      have hl1:l.take 1 = [κ]:=by
       cases l with
       | nil=>cases hl
       | cons x l=>cases hl; rfl
      rw [hl1] at k1
      obtain ⟨v,q1,q2⟩:=k1.2 0 κ rfl
      have q3:C.take 1 = [v]:=by
       match hc:C.take 1,k1.1 with
       | [x],_=>rw [hc] at q1; cases q1; rfl
      rw [List.flatMap_cons]
      refine One.both (rb1_ok hR hr h1 q2) (rbP_ok hr h2 k2) (fun s e1 e2 => ?_)
      rw [joinP_cons,← e2,← e1,← q3,List.take_append_drop]
     · cases h
    split at h
    ·rename_i t
     split at h
     ·rename_i hh
      rw [Bool.and_eq_true] at hh
      rw [Option.map_eq_some_iff] at h
      obtain ⟨r,h1,rfl⟩:=h
      obtain ⟨k1,k2⟩:=hC.cut' (H.sz (R.srt t))
      rw [of_decide_eq_true hh.2] at k1
      have e1:=celK_eq hR hr t k1
      have ih:=rbP_ok hr h1 k2
      rw [List.flatMap_cons]
      refine One.both (One.none (p:=fun _=>True) fun _=>trivial) ih (fun s _ e2 => ?_)
      rw [joinP_cons,← e2]
      show C=H.cl (R.D1 t)++_
      rw [← e1,List.take_append_drop]
     · exact single h
    · exact single h
theorem rbT_ok {σ:S} (hr:σ.rho=R.rho) : ∀ {τ:T} {p:Vp} {v:Value},R.rbT τ=some p→VT σ v τ→One σ p.sl fun s=>v=R.vp s p:=by
 intro τ
 have one : ∀ {τ:T} {p:Vp} {v:Value},VT σ v τ→(match k1 τ with | some κ=>(R.rb1 κ).map Vp.one | none=>none)=some p→One σ p.sl fun s=>v=R.vp s p:=fun {τ p v} hv h=>by
  split at h
  ·rename_i κ hk
   rw [Option.map_eq_some_iff] at h
   obtain ⟨q,h1,rfl⟩:=h
   have:=rb1_ok hR hr h1 (k1_ok hv hk)
   refine ⟨fun e s => ?_,fun x e => ?_⟩
   ·have e1:=this.1 e s
    show v=(R.pv s q).headD undef
    rw [← e1]
    rfl
   ·obtain ⟨s,q1,q2⟩:=this.2 x e
    refine ⟨s,q1,?_⟩
    show v=(R.pv s q).headD undef
    rw [← q2]
    rfl
  · cases h
 induction τ with
 | agg l =>
   intro p v h hv
   simp only [Re.rbT,Option.map_eq_some_iff] at h
   obtain ⟨ps,h1,rfl⟩:=h
   obtain ⟨C,rfl,hC⟩:=hv
   have:=rbP_ok hR hr h1 hC
   refine ⟨fun e s => ?_,fun x e => ?_⟩
   ·show Value.agg C = .agg (R.joinP s ps).toArray
    rw [← this.1 e s]
   ·obtain ⟨s,q1,q2⟩:=this.2 x e
    refine ⟨s,q1,?_⟩
    show Value.agg C = .agg (R.joinP s ps).toArray
    rw [← q2]
 | np=>intro p v h hv; cases h; exact One.none fun _=>hv
 | os j o len cap =>
   intro p v h hv
   cases h
   obtain ⟨c,e,k1,k2,_,k4⟩:=hv
   exact ⟨fun e=>(by cases e),fun x e'=>(by cases e'; exact ⟨v,⟨c,e,k1,k2,k4⟩,rfl⟩)⟩
 | t2 x y ihx ihy =>
   intro p v h hv
   simp only [Re.rbT] at h
   split at h
   ·rename_i p1 p2 h1 h2
    cases h
    obtain ⟨a,b,rfl,ha,hb⟩:=hv
    exact One.both (ihx h1 ha) (ihy h2 hb) (fun s e1 e2=>by rw [e1,e2]; rfl)
   · cases h
 | t3 x y u ihx ihy ihu =>
   intro p v h hv
   simp only [Re.rbT] at h
   split at h
   ·rename_i p1 p2 p3 h1 h2 h3
    cases h
    obtain ⟨a,b,d,rfl,ha,hb,hd⟩:=hv
    exact One.both (ihx h1 ha) (One.both (r:=fun s=>b=R.vp s p2∧d=R.vp s p3) (ihy h2 hb) (ihu h3 hd) (fun s e1 e2=>⟨e1,e2⟩)) (fun s e1 e2=>by rw [e1,e2.1,e2.2]; rfl)
   · cases h
 | _=>intro p v h hv; exact one hv h
omit hR
structure Ou where
 pc:List (Bool×Bool)
 F:Value→Value
 sl:Option (Nat×List Value)
def Re.out (R:Re H) (x:Fin):Option Ou:=match R.rbT x.τ with
 | none=>none
 | some p=>match p.sl with
   | []=>some ⟨x.pc.map fun c=>(H.bB (R.D1 c.1),c.2),fun s=>R.vp s p,none⟩
   | [(j,o,len)]=>match rowOf x.rows j with
     | some l=>match R.rbP (l.drop o).length (l.drop o) with
       | some qs=>if (qs.flatMap Pz.sl).isEmpty then some ⟨x.pc.map fun c=>(H.bB (R.D1 c.1),c.2),fun s=>R.vp s p,some (len,R.joinP undef qs)⟩ else none
       | none=>none
     | none=>none
   | _=>none
def Re.outs (R:Re H):List Fin→Option (List Ou)
 | []=>some []
 | x::r=>match R.out x,R.outs r with
   | some a,some l=>some (a::l)
   | _,_=>none
def pcP:List (Bool×Bool)→Prop
 | []=>True
 | c::r=>c.1=c.2∧pcP r
def Ou.P (w0:World) (x:Ou) (e:Ending) (w':World):Prop:=pcP x.pc∧match x.sl with
 | none=>e = .returned (x.F undef)
 | some (len,L) => ∃ b o C t cap,e = .returned (x.F (.slice (some ⟨b,o,none⟩) len cap))∧w0.heap.size≤b∧len≤cap∧cap≤maxLen∧w'.heap[b]? = some (.cells C t (0,0))∧(C.toList.drop o).take L.length=L
def OuP (w0:World) (e:Ending) (w':World):List Ou→Prop
 | []=>False
 | [x]=>x.P w0 e w'
 | x::r=>x.P w0 e w'∨OuP w0 e w' r
theorem OuP.of {w0:World} {e:Ending} {w':World} {x:Ou} : ∀ {l:List Ou},x∈l→x.P w0 e w'→OuP w0 e w' l
 | [y],h,k=>by simp at h; subst h; exact k
 | y::z::r,h,k=>by
   rcases List.mem_cons.1 h with rfl | h
   · exact .inl k
   · exact .inr (OuP.of h k)
def FnsOk (H:Th):List (Nat×(List H.U→H.U))→Prop
 | []=>True
 | F::r=>(∀ us,H.srt (F.2 us)=F.1)∧FnsOk H r
theorem FnsOk.mem : ∀ {G:List (Nat×(List H.U→H.U))},FnsOk H G → ∀ F∈G,∀ us,H.srt (F.2 us)=F.1
 | _::_,h,F,hm,us=>by
   rcases List.mem_cons.1 hm with rfl | hm
   · exact h.1 us
   · exact h.2.mem F hm us
def TbOk (R:Re H) (w0:World):List (Nat×List Tm)→Prop
 | []=>True
 | x::r=>(∃ t f,w0.heap[x.1]? = some (.cells (joinC H (x.2.map R.D1)).toArray t f))∧TbOk R w0 r
theorem TbOk.mem {w0:World} : ∀ {l:List (Nat×List Tm)},TbOk R w0 l → ∀ x∈l,∃ t f,w0.heap[x.1]? = some (.cells (joinC H (x.2.map R.D1)).toArray t f)
 | _::_,h,x,hm=>by
   rcases List.mem_cons.1 hm with rfl | hm
   · exact h.1
   · exact h.2.mem x hm
def Re.tb (R:Re H) (gl:List (Nat×List Tm)):List (Nat×List K):=gl.map fun x=>(x.1,R.vK x.2)
structure Ty (H:Th) where
 P:Program
 ti:List (Nat×TI)
 gl:List (Nat×List Tm)
 fs:List Fm
 os:List Om
 shr:List Nat := []
noncomputable def Ty.c (Y:Ty H) (R:Re H) (w0:World):Ctx := {P:=Y.P,gt := {l:=R.tb Y.gl,fx := [],rho:=R.rho,w0:=some w0},ti:=Y.ti,eqs := [],sg := [],own:=some Y.shr,ofam:=fun f azs=>R.fam f azs Y.fs,oof:=fun o azs=>R.opm o azs Y.os}
structure Base (P:Program) (ti:List (Nat×TI)):Prop where
 ti:(ti.all fun x=>chkTi P x.1 x.2)=true
 ord:P.follows .mixedOrders=true
structure Ty.Ok (Y:Ty H) (R:Re H) (w0:World):Prop where
 base:Base Y.P Y.ti
 re:FnsOk H R.G
 tb:TbOk R w0 Y.gl
 fs:FmsOk Y.P w0 R Y.fs
 os:OmsOk Y.P w0 R Y.os
noncomputable def Ty.run (Y:Ty H) (R:Re H) (w0:World) (fn:Func) (ps:List Vsh):Option (List Ou):=match (ps.all R.vB && (ps.flatMap Vsh.fr).isEmpty) && ((Y.fs.all fun x=>bodyB Y.P x.f) && decide (Y.gl.map (·.1)).Nodup) with
 | true=>match fnP (Y.c R w0) 300 fn (ps.map (R.vT 0)) with
   | some l=>R.outs l
   | none=>none
 | false=>none
theorem Ty.runs {Y:Ty H} {R:Re H} {w0:World} (ok:Y.Ok R w0) {f:FuncId} {fn:Func} (hf:Y.P.funcs[f]? = some fn) (ps:List Vsh) {L:List Ou} (h:Y.run R w0 fn ps=some L) :
 Calls Y.P f (ps.map (R.vV undef)).toArray w0 fun e w'=>OuP w0 e w' L∧Below w0.heap.size w0 w':=by
 have hR:R.Ok:=ok.re.mem
 unfold Ty.run at h
 split at h
 ·rename_i hb
  rw [Bool.and_eq_true,Bool.and_eq_true,Bool.and_eq_true,decide_eq_true_eq] at hb
  obtain ⟨hb,hfn,hnd⟩:=hb
  split at h
  ·rename_i l hl
   have cok:(Y.c R w0).Ok:=⟨ok.base.ord,fun x hx=>chkTi_ok (List.all_eq_true.1 ok.base.ti x hx),(fun x hx=>nomatch hx),(fun x hx=>nomatch hx),(fun x hx=>nomatch hx),fam_ok hR rfl rfl hfn ok.fs,opm_ok hR rfl rfl ok.os,fun _=>rho_pick⟩
   obtain ⟨σ,hσ⟩ : ∃ σ:S,σ=⟨fun b=>((R.tb Y.gl).find? fun x=>x.1==b).map fun x=>(false,x.2),R.rho,fun _=>0,fun _=>none⟩:=⟨_,rfl⟩
   have hrho:σ.rho=R.rho:=by rw [hσ]
   have tabs : ∀ b m l,σ b=some (m,l)→m=false ∧ ∃ x∈Y.gl,x.1=b∧l=R.vK x.2:=fun b m l e=>by
    rw [hσ] at e
    have e:((R.tb Y.gl).find? fun x=>x.1==b).map (fun x=>(false,x.2))=some (m,l):=e
    rw [Option.map_eq_some_iff] at e
    obtain ⟨y,hy,e⟩:=e
    cases e
    obtain ⟨x,hx,rfl⟩:=List.mem_map.1 (List.mem_of_find?_eq_some hy)
    exact ⟨rfl,x,hx,by simpa using List.find?_some hy,rfl⟩
   have nowr : ∀ b l,σ b≠some (true,l):=fun b l e=>by cases (tabs _ _ _ e).1
   have hw:WT (Y.c R w0).gt σ w0:=by
    refine ⟨fun v e => ?_,hrho,fun g l hl => ?_,fun g C h=>(nomatch h),fun b m l hb => ?_,fun j l hj => ?_,fun i j l l' hj => ?_,fun b m l hb => ?_⟩
    ·cases e
     exact ⟨Below.refl _ _,fun b l hb=>absurd hb (nowr b l),fun j l hj=>by rw [hσ] at hj; cases hj⟩
    ·rw [hσ]
     show ((R.tb Y.gl).find? fun x=>x.1==g).map (fun x=>(false,x.2))=some (false,l)
     have key : ∀ G:List (Nat×List Tm),(G.map (·.1)).Nodup→(g,l)∈R.tb G→(R.tb G).find? (fun x=>x.1==g)=some (g,l):=by
      intro G
      induction G with
      | nil=>intro _ h; cases h
      | cons x G ih =>
        intro hn hm
        simp only [List.map_cons,List.nodup_cons] at hn
        unfold Re.tb at hm ⊢
        rw [List.map_cons] at hm ⊢
        rcases List.mem_cons.1 hm with h | h
        · rw [List.find?_cons_of_pos (by rw [← h]; simp),h]
        ·rw [List.find?_cons_of_neg ?_]
         · exact ih hn.2 h
         ·intro hx
          refine hn.1 ?_
          obtain ⟨z,hz,e⟩:=List.mem_map.1 h
          rw [List.mem_map]
          refine ⟨z,hz,?_⟩
          have:x.1=g:=by simpa using hx
          rw [this]
          exact congrArg (·.1) e
     rw [key _ hnd hl]
     rfl
    ·obtain ⟨rfl,x,hx,rfl,rfl⟩:=tabs _ _ _ hb
     obtain ⟨t,f',hh⟩:=ok.tb.mem x hx
     exact ⟨_,t,f',hh,fun h=>(nomatch h),by simpa using vK_ok hR hrho x.2⟩
    · rw [hσ] at hj; cases hj
    · rw [hσ] at hj; cases hj
    ·obtain ⟨_,x,_,_,rfl⟩:=tabs _ _ _ hb
     rw [List.all_eq_true]
     intro κ hκ
     obtain ⟨t,_,hκ⟩:=List.mem_flatMap.1 hκ
     exact List.all_eq_true.1 (celK_pl _ _) κ hκ
   have hvs:VTs σ (ps.map (R.vV undef)) (ps.map (R.vT 0)):=by
    refine ⟨by simp,fun i τ hi => ?_⟩
    rw [List.getElem?_map,Option.map_eq_some_iff] at hi
    obtain ⟨p,hp,rfl⟩:=hi
    have hpm:=List.mem_of_getElem? hp
    refine ⟨_,by rw [List.getElem?_map,hp]; rfl,vV_ok hR hrho p (List.all_eq_true.1 hb.1 p hpm) (fun x hx => ?_)⟩
    have:=List.isEmpty_iff.1 hb.2
    have hm:x∈ps.flatMap Vsh.fr:=List.mem_flatMap.2 ⟨p,hpm,hx⟩
    rw [this] at hm
    cases hm
   refine (fnP_ok cok 300 hf hl (σ:=σ) (fun j=>by rw [hσ]) hw (vs:=(ps.map (R.vV undef)).toArray) (by simpa using hvs)).mono fun e w' hh => ?_
   obtain ⟨x,v,σ',hx,rfl,g1,g2,g3,g4,g5⟩:=hh
   have hr':σ'.rho=R.rho:=g1.rho.trans hrho
   refine ⟨?_,⟨g1.os,g1.tape,g1.output,g1.size,fun b hb=>g1.kept b hb (nowr b) (fun j l hj=>by rw [hσ] at hj; cases hj)⟩⟩
   have find : ∀ {l:List Fin} {L:List Ou},R.outs l=some L→x∈l → ∃ y∈L,R.out x=some y:=fun {l}=>by
    induction l with
    | nil=>intro L _ hx; cases hx
    | cons z l ih =>
      intro L h hx
      unfold Re.outs at h
      split at h
      ·rename_i a L' h1 h2
       cases h
       rcases List.mem_cons.1 hx with rfl | hx
       · exact ⟨a,by simp,h1⟩
       ·obtain ⟨y,q1,q2⟩:=ih h2 hx
        exact ⟨y,List.mem_cons_of_mem _ q1,q2⟩
      · cases h
   obtain ⟨y,hy,ho⟩:=find h hx
   refine OuP.of hy ?_
   have hpc:pcP (x.pc.map fun c=>(H.bB (R.D1 c.1),c.2)):=by
    have key : ∀ l:List (Tm×Bool),(∀ c∈l,(σ'.rho c.1)[0]? = some (.bool c.2))→pcP (l.map fun c=>(H.bB (R.D1 c.1),c.2)):=by
     intro l
     induction l with
     | nil=>intro _; trivial
     | cons c l ih =>
       intro hc
       refine ⟨?_,ih fun c hm=>hc c (List.mem_cons_of_mem _ hm)⟩
       have:=hc c (List.mem_cons_self ..)
       rw [hr'] at this
       have this:(H.cl (R.D1 c.1))[0]? = some (.bool c.2):=this
       show H.bB (R.D1 c.1)=c.2
       unfold Th.bB
       cases hh:H.cl (R.D1 c.1) with
       | nil=>rw [hh] at this; cases this
       | cons v r=>rw [hh] at this; cases this; rfl
    exact key _ g4
   unfold Re.out at ho
   split at ho
   · cases ho
   ·rename_i p hp
    have hone:=rbT_ok hR hr' hp g3
    split at ho
    ·rename_i hsl
     cases ho
     exact ⟨hpc,by rw [hone.1 hsl undef]⟩
    ·rename_i j o len hsl
     split at ho
     ·rename_i lr hlr
      split at ho
      ·rename_i qs hqs
       split at ho
       ·rename_i hemp
        cases ho
        refine ⟨hpc,?_⟩
        obtain ⟨s,⟨cap,rfl,k1,k2,l',k3⟩,k4⟩:=hone.2 _ hsl
        have hpv:σ'.pv j=some lr:=g5 _ (rowOf_mem hlr)
        obtain ⟨_,C,t,k5,r,k6⟩:=g2.pvt j lr hpv
        have hC:CT σ' ((C.toList.drop o).take (lr.drop o).length) (lr.drop o):=by
         have h0:=k6.seg o (lr.drop o).length
         rwa [List.drop_append,List.take_left' rfl] at h0
        have hq:=(rbP_ok hR hr' hqs hC).1 (List.isEmpty_iff.1 hemp) undef
        refine ⟨σ'.ad j,o,C,t,cap,by rw [k4],(g2.old w0 rfl).2.2 j lr hpv,k1,k2,k5,?_⟩
        rw [← hq,List.length_take]
        have hle:=hC.1
        rw [List.length_take] at hle
        rw [hle]
       · cases ho
      · cases ho
     · cases ho
    · cases ho
  · cases h
 · cases h
theorem Ty.one {Y:Ty H} {R:Re H} {w0:World} (ok:Y.Ok R w0) {f:FuncId} {fn:Func} (hf:Y.P.funcs[f]? = some fn) (ps:List Vsh) {v:Value} (h:Y.run R w0 fn ps=some [⟨[],fun _=>v,none⟩]) :
 Calls Y.P f (ps.map (R.vV undef)).toArray w0 fun e w'=>e = .returned v∧Below w0.heap.size w0 w' :=
 (Ty.runs ok hf ps h).mono fun e w' h=>⟨h.1.2,h.2⟩
end
def kBin (b:BinOp) (t:TypeId):Op→Bool
 | .binOp b' t' _ _ _=>decide (b'=b) && Nat.beq t' t
 | _=>false
theorem kBin_ok {P:Program} {y:World} {b:BinOp} {t:TypeId} {a:Act} {o:Oper} (hk:kBin b t o.op=true) {u v r:Value} (hv:o.op.operands.toList.map a.eval = [u,v]) (hr : ∀ ox oy,((do eqGuard b t ox oy u v; binOp b t u v:Sem Value)).run P y = .ok r y) : ∃ x w',(execOp a.eval o).run P y = .ok (.value x) w'∧Ending.returned x = .returned r∧Below y.heap.size y w':=by
 refine ⟨r,y,?_,rfl,Below.refl _ _⟩
 obtain ⟨dst,op,type,pos,after,guard⟩:=o
 cases op <;> simp only [kBin] at hk <;> first | cases hk | skip
 rename_i b' t' x y' ty'
 rw [Bool.and_eq_true,decide_eq_true_eq] at hk
 obtain ⟨rfl,h2⟩:=hk
 have h2:t'=t:=Nat.eq_of_beq_eq_true h2
 subst h2
 simp only [Op.operands,List.map_cons,List.map_nil,List.cons.injEq,and_true] at hv
 obtain ⟨rfl,rfl⟩:=hv
 have h:=hr x y'
 show ((do pure (.value (← (do eqGuard b' t' x y' (a.eval x) (a.eval y'); binOp b' t' (a.eval x) (a.eval y'):Sem Value))):Sem Next)).run P y=_
 rw [Sem.run_bind,h]
 rfl
end Ab
end Go.Proofs.YtfodadedkilgdaaGreatDoor

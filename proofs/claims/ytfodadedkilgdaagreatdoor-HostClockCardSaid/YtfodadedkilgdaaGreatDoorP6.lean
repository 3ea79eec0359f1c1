/- A part of the proof. Plain; no condition. -/
import Derived.Test.YtfodadedkilgdaaGreatDoorP5
import Derived.Test.YtfodadedkilgdaaGreatDoorP3
import Derived.Laws.Tables
import Derived.Great.BuildSlice
namespace Go.Proofs.YtfodadedkilgdaaGreatDoor
set_option linter.unusedVariables false
set_option linter.unusedSimpArgs false
open Go.RowKit Mem
namespace Rn
variable {c:Cx} {σ σ':Sg} {h h':H} {w w':World}
def Yields (c:Cx) (σ:Sg) (h:H) (w:World) (s:Sem Value) (r:R) (h':H):Prop :=
 ∃ v σ' w',s.run c.P w = .ok v w'∧Hs c σ' h' w'∧St σ σ' h h' w w'∧v=r.val σ'∧r.df σ'
theorem Yields.stay (hs:Hs c σ h w) {s:Sem Value} {r:R} (hr:s.run c.P w = .ok (r.val σ) w) (hd:r.df σ):Yields c σ h w s r h:=⟨_,σ,w,hr,hs,St.refl hs,rfl,hd⟩
theorem alloc_ok (hs:Hs c σ h w) {l:List V} {t:TypeId} (hf:Fr σ h (h.new (.l l t none))) (hm:h.mr≤h.nx) (hl:dfs σ l) :
 ∃ σ',Hs c σ' (h.new (.l l t none)) (w.alloc (.cells (vals σ l).toArray t))∧St σ σ' h (h.new (.l l t none)) w (w.alloc (.cells (vals σ l).toArray t))∧σ'.bl h.nx=w.heap.size ∧ ∃ a,σ'.β h.nx=some a:=by
 have hn:σ.β h.nx=none:=hf.1 h.nx (Nat.le_refl _) (Nat.lt_succ_self _)
 have hle:Le σ (σ.name h.nx w.heap.size 0):=Sg.name_le hn
 obtain ⟨k1,k2⟩:=hs.adopt hn hm (x := .l l t none) (a:=w.heap.size) (g:=0) (w':=w.alloc (.cells (vals σ l).toArray t)) ((Below.refl _ _).alloc (Nat.le_refl _) _) (Nat.le_refl _)
  ⟨(0,0),by rw [Sg.name_bl.1,(vals_mono hle hl).1]; exact heap_alloc_new w _,.inl rfl⟩ hl
 exact ⟨_,k1,k2,Sg.name_bl.1,_,Sg.name_bl.2.2⟩
def boxA (h:H) (t:TypeId) (l:List V):R×Dl:=(.o (.v (.p h.nx 0)),.new (.l l t none))
theorem boxA_ok (hs:Hs c σ h w) {t:TypeId} {v:Value} {l:List V} {r:R} {d:Dl} (e:boxA h t l=(r,d)) (hv:v.cells.toList=vals σ l) (hl:dfs σ l) (hf:Fr σ h (d.on h)) (hm:h.mr≤h.nx):Yields c σ h w (Instr.box t v) r (d.on h):=by
 cases e
 obtain ⟨σ',k1,k2,k3,k4⟩:=alloc_ok hs hf hm hl
 refine ⟨_,σ',_,?_,k1,k2,rfl,O.df_one.2 k4⟩
 have:v.cells=(vals σ l).toArray:=by rw [← hv,Array.toArray_toList]
 simp [Instr.box,newVar,newRow,this,R.val,O.val,V.val,k3]
noncomputable def zeroA (P:Program) (t:TypeId):Option (List V):=match P.info? t with
 | some i=>match i.zero with
   | some z=>ofCs z.cells.toList
   | none=>none
 | none=>none
noncomputable def allocA (P:Program) (h:H) (t:TypeId):Option (R×Dl):=(zeroA P t).map (boxA h t)
theorem zeroA_ok {P:Program} {t:TypeId} {l:List V} (e:zeroA P t=some l) (σ:Sg) (w:World) : ∃ i z,P.info? t=some i∧i.zero=some z∧z.cells.toList=vals σ l∧dfs σ l:=by
 unfold zeroA at e
 split at e
 ·rename_i i hi
  split at e
  ·rename_i z hz
   obtain ⟨k1,k2⟩:=ofCs_ok e σ
   exact ⟨i,z,hi,hz,k1,k2⟩
  · cases e
 · cases e
theorem allocA_ok (hs:Hs c σ h w) {t:TypeId} {r:R} {d:Dl} (e:allocA c.P h t=some (r,d)) (hf:Fr σ h (d.on h)) (hm:h.mr≤h.nx):Yields c σ h w (Instr.alloc t true (.tuple #[])) r (d.on h):=by
 obtain ⟨l,hl,e⟩:=Option.map_eq_some_iff.1 e
 obtain ⟨i,z,hi,hz,k1,k2⟩:=zeroA_ok hl σ w
 obtain ⟨v,σ',w',g1,g2⟩:=boxA_ok hs e k1 k2 hf hm
 exact ⟨v,σ',w',by simpa [Instr.alloc,zeroValue,run_typeInfo w hi,hz,Instr.box] using g1,g2⟩
theorem al_add (b o j:Nat):(⟨b,o,none⟩:Addr).add j=⟨b,o+j,none⟩:=Mem.addr_add b o j
noncomputable def fieldP (P:Program) (t:TypeId) (f:Nat):Option (Nat×Nat×TypeId):=match P.underlying t with
 | some (.struct fs)=>match fs.toList[f]? with
   | some fd=>match P.info? fd.type with
     | some i=>some (fd.offset,i.size,fd.type)
     | none=>none
   | none=>none
 | _=>none
theorem fieldP_ok {P:Program} {t:TypeId} {f o n:Nat} {ft:TypeId} (e:fieldP P t f=some (o,n,ft)) : ∃ fs fd i,P.underlying t=some (.struct fs)∧fs[f]? = some fd∧P.info? fd.type=some i∧fd.offset=o∧i.size=n∧fd.type=ft:=by
 unfold fieldP at e
 split at e
 ·rename_i fs hu
  split at e
  ·rename_i fd hf
   split at e
   ·rename_i i hi
    cases e
    exact ⟨fs,fd,i,hu,by simpa using hf,hi,rfl,rfl,rfl⟩
   · cases e
  · cases e
 · cases e
noncomputable def faA (P:Program) (t:TypeId) (f b o:Nat):Option R:=match fieldP P t f with
 | some (d,n,_)=>match Nat.beq n 0 with
   | true=>none
   | false=>some (.o (.v (.p b (o+d))))
 | none=>none
theorem faA_ok {t:TypeId} {f b o:Nat} {r:R} (hs:Hs c σ h w) (hb : ∃ a,σ.β b=some a) (e:faA c.P t f b o=some r):Yields c σ h w (Instr.fieldAt t (.pointer (some ⟨σ.bl b,o,none⟩)) f) r h:=by
 unfold faA at e
 split at e
 ·rename_i d n ft hfd
  split at e
  · cases e
  ·rename_i hn
   cases e
   obtain ⟨fs,fd,i,hu,hf,hi,rfl,rfl,_⟩:=fieldP_ok hfd
   have hn':i.size≠0:=fun e=>by rw [e] at hn; cases hn
   refine Yields.stay hs ?_ (O.df_one.2 hb)
   simp [Instr.fieldAt,run_underlying hu,hf,Instr.sureAddr,fieldPlace,sizeOf,run_typeInfo w hi,hn',al_add,R.val,O.val,V.val]
 · cases e
end Rn
end Go.Proofs.YtfodadedkilgdaaGreatDoor
namespace Go.Proofs.YtfodadedkilgdaaGreatDoor
set_option linter.unusedVariables false
set_option linter.unusedSimpArgs false
open Go.RowKit Mem
namespace Rn
variable {c:Cx} {σ σ':Sg} {h h':H} {w w':World}
def numR:R→Option Nat
 | .o (.v (.i _ (.ofNat n)))=>some n
 | _=>none
theorem numR_ok {r:R} {n:Nat} (e:numR r=some n) (σ:Sg) : ∃ k,r.val σ = .int k n:=by
 unfold numR at e
 split at e
 · cases e; exact ⟨_,rfl⟩
 · cases e
noncomputable def sizeA (P:Program) (t:TypeId):Option Nat:=(P.info? t).map (·.size)
noncomputable def ixA (P:Program) (t:TypeId) (x:R) (i:R):Option R:=match P.underlying t,numR i with
 | some (.array n e),some j=>match x,sizeA P e with
   | .o (.v (.p b o)),some s=>match Nat.blt j n with
     | true=>some (.o (.v (.p b (o+j*s))))
     | false=>none
   | _,_=>none
 | some (.slice e),some j=>match x,sizeA P e with
   | .o (.v (.s b o n _)),some s=>match Nat.blt j n with
     | true=>some (.o (.v (.p b (o+j*s))))
     | false=>none
   | _,_=>none
 | _,_=>none
theorem blt_ok {a b:Nat} (e:Nat.blt a b=true):a<b:=by unfold Nat.blt at e; rw [Nat.ble_eq] at e; exact e
theorem sizeA_ok {P:Program} {t:TypeId} {n:Nat} (e:sizeA P t=some n) : ∃ i,P.info? t=some i∧i.size=n:=Option.map_eq_some_iff.1 e
theorem ixA_ok (hs:Hs c σ h w) {t:TypeId} {x i r:R} (hx:x.df σ) (e:ixA c.P t x i=some r):Yields c σ h w (Instr.indexAt t (x.val σ) (i.val σ)) r h:=by
 unfold ixA at e
 split at e
 ·rename_i n el j hu hj
  obtain ⟨k,hk⟩:=numR_ok hj σ
  split at e
  ·rename_i b o s hsz
   split at e
   ·rename_i hlt
    cases e
    obtain ⟨it,hit,rfl⟩:=sizeA_ok hsz
    have hlt:=blt_ok hlt
    have hx':(V.p b o).df σ:=O.df_one.1 hx
    refine Yields.stay hs ?_ ((O.df_one (x := .p b (o+j*it.size))).2 hx')
    rw [hk]
    simp [Instr.indexAt,asIntOf,run_underlying hu,Instr.sureAddr,sizeOf,run_typeInfo w hit,hlt,al_add,R.val,O.val,V.val]
   · cases e
  · cases e
 ·rename_i el j hu hj
  obtain ⟨k,hk⟩:=numR_ok hj σ
  split at e
  ·rename_i b o n cp s hsz
   split at e
   ·rename_i hlt
    cases e
    obtain ⟨it,hit,rfl⟩:=sizeA_ok hsz
    have hlt:=blt_ok hlt
    have hx':(V.s b o n cp).df σ:=O.df_one.1 hx
    refine Yields.stay hs ?_ ((O.df_one (x := .p b (o+j*it.size))).2 hx'.1)
    rw [hk]
    simp [Instr.indexAt,asIntOf,run_underlying hu,sizeOf,run_typeInfo w hit,hlt,al_add,R.val,O.val,V.val]
   · cases e
  · cases e
 · cases e
theorem bounds_run {P:Program} {w:World} (b:Bool) {lw hg:Option Value} {lo h len cap:Nat} (hlo:(lw=none∧lo=0) ∨ ∃ k,lw=some (.int k lo)) (hhi:(hg=none∧h=len) ∨ ∃ k,hg=some (.int k h)) (h1:lo≤h) (h2:h≤cap) :
 (Instr.sliceBounds b len cap lw hg none).run P w = .ok (lo,h,cap) w:=by
 rcases hlo with ⟨rfl,rfl⟩ | ⟨k,rfl⟩ <;> rcases hhi with ⟨rfl,rfl⟩ | ⟨k',rfl⟩ <;>
  simp [Instr.sliceBounds,Instr.sliceBound,asIntOf,h1,h2]
def bnd:Option R→Nat→Option Nat
 | none,d=>some d
 | some r,_=>numR r
theorem bnd_ok {x:Option R} {d n:Nat} (e:bnd x d=some n) (σ:Sg):(x.map (R.val σ)=none∧n=d) ∨ ∃ k,x.map (R.val σ)=some (.int k n):=by
 cases x with
 | none=>cases e; exact .inl ⟨rfl,rfl⟩
 | some r=>obtain ⟨k,hk⟩:=numR_ok (show numR r=some n from e) σ; exact .inr ⟨k,by rw [Option.map_some,hk]⟩
noncomputable def cutA (b o n:Nat) (cp:Cap) (s lo hi:Nat):Option V:=match cp with
 | .k cap=>match Nat.ble lo hi,Nat.ble hi cap with
   | true,true=>some (.s b (match Nat.beq cap lo with | true=>o | false=>o+lo*s) (hi-lo) (.k (cap-lo)))
   | _,_=>none
 | .g d=>match Nat.ble hi n with
   | true=>match lo with
     | 0=>some (.s b o hi (.g d))
     | l+1=>match Nat.blt (l+1) hi with
       | true=>some (.s b (o+(l+1)*s) (hi-(l+1)) (.g (d+(l+1))))
       | false=>match Nat.beq (l+1) hi with
         | true=>some (.se b o (.g d) (l+1) s)
         | false=>none
   | false=>none
theorem cutA_ok {b o n:Nat} {cp:Cap} {s lo hi:Nat} {v:V} (e:cutA b o n cp s lo hi=some v) (hd:(V.s b o n cp).df σ) :
 lo≤hi∧hi≤capOf σ b cp∧v.df σ∧v.val σ = .slice (some (if capOf σ b cp=lo then ⟨σ.bl b,o,none⟩ else ⟨σ.bl b,o+lo*s,none⟩)) (hi-lo) (capOf σ b cp-lo):=by
 unfold cutA at e
 split at e
 ·rename_i cap
  split at e
  ·rename_i h1 h2
   cases e
   have h1:=Nat.le_of_ble_eq_true h1
   have h2:=Nat.le_of_ble_eq_true h2
   refine ⟨h1,h2,⟨hd.1,by simp only [capOf]; omega⟩,?_⟩
   simp only [V.val,capOf]
   by_cases hc:cap=lo
   ·subst hc
    simp
   ·have:Nat.beq cap lo=false:=by
     cases hb:Nat.beq cap lo
     · rfl
     · exact absurd (Nat.eq_of_beq_eq_true hb) hc
    simp [this,hc]
  · cases e
 ·rename_i d
  split at e
  ·rename_i h1
   have h1:=Nat.le_of_ble_eq_true h1
   have h2:n≤σ.γ b-d:=hd.2
   split at e
   ·cases e
    refine ⟨Nat.zero_le _,Nat.le_trans h1 h2,⟨hd.1,Nat.le_trans h1 h2⟩,?_⟩
    simp only [V.val,capOf,Nat.sub_zero,Nat.zero_mul,Nat.add_zero,ite_self]
   ·rename_i l
    split at e
    ·rename_i h3
     cases e
     have h3:=blt_ok h3
     refine ⟨by omega,Nat.le_trans h1 h2,⟨hd.1,by simp only [capOf]; omega⟩,?_⟩
     have e3 : ¬ capOf σ b (.g d)=l+1:=by simp only [capOf]; omega
     rw [if_neg e3]
     simp only [V.val,capOf,Nat.sub_sub]
    ·split at e
     ·rename_i h4
      cases e
      have h4:=Nat.eq_of_beq_eq_true h4
      subst h4
      exact ⟨Nat.le_refl _,Nat.le_trans h1 h2,⟨hd.1,Nat.le_trans h1 h2⟩,by rw [Nat.sub_self]; rfl⟩
     · cases e
  · cases e
noncomputable def slA (P:Program) (t:TypeId) (x:R) (lo hi:Option R):Option R:=match P.underlying t with
 | some (.array n e)=>match x,sizeA P e,bnd lo 0,bnd hi n with
   | .o (.v (.p b o)),some s,some l,some k=>(cutA b o n (.k n) s l k).map fun v => .o (.v v)
   | _,_,_,_=>none
 | some (.slice e)=>match x with
   | .o (.v (.s b o n cp))=>match sizeA P e,bnd lo 0,bnd hi n with
     | some s,some l,some k=>(cutA b o n cp s l k).map fun v => .o (.v v)
     | _,_,_=>none
   | .o (.v .ns)=>match sizeA P e,bnd lo 0,bnd hi 0 with
     | some _,some 0,some 0=>some (.o (.v .ns))
     | _,_,_=>none
   | _=>none
 | _=>none
theorem slA_ok (hs:Hs c σ h w) {t:TypeId} {x r:R} {lo hi:Option R} (hx:x.df σ) (e:slA c.P t x lo hi=some r):Yields c σ h w (Instr.sliceAt t (x.val σ) (lo.map (R.val σ)) (hi.map (R.val σ)) none) r h:=by
 unfold slA at e
 split at e
 ·rename_i n el hu
  split at e
  ·rename_i b o s l k hsz hl hk
   obtain ⟨v,hv,rfl⟩:=Option.map_eq_some_iff.1 e
   obtain ⟨it,hit,rfl⟩:=sizeA_ok hsz
   obtain ⟨k1,k2,k3,k4⟩:=cutA_ok hv (σ:=σ) ⟨O.df_one.1 hx,Nat.le_refl _⟩
   have hb:(Instr.sliceBounds false n n (lo.map (R.val σ)) (hi.map (R.val σ)) none).run c.P w = .ok (l,k,n) w:=bounds_run (P:=c.P) (w:=w) false (bnd_ok hl σ) (bnd_ok hk σ) k1 k2
   refine Yields.stay hs ?_ (O.df_one.2 k3)
   simp only [R.val,O.val,k4]
   simp only [Instr.sliceAt,Sem.run_bind,run_underlying hu,Result.andThen_ok,Instr.sureAddr,V.val,hb,sizeOf,run_typeInfo w hit,Sem.run_pure,al_add]
   rfl
  · cases e
 ·rename_i el hu
  split at e
  ·rename_i b o n cp
   split at e
   ·rename_i s l k hsz hl hk
    obtain ⟨v,hv,rfl⟩:=Option.map_eq_some_iff.1 e
    obtain ⟨it,hit,rfl⟩:=sizeA_ok hsz
    obtain ⟨k1,k2,k3,k4⟩:=cutA_ok hv (O.df_one.1 hx)
    have hb:=bounds_run (P:=c.P) (w:=w) (len:=n) true (bnd_ok hl σ) (bnd_ok hk σ) k1 k2
    refine Yields.stay hs ?_ (O.df_one.2 k3)
    simp only [R.val,O.val,k4]
    simp only [Instr.sliceAt,Sem.run_bind,run_underlying hu,Result.andThen_ok,Instr.slice,V.val,hb,sizeOf,run_typeInfo w hit,Sem.run_pure]
    split <;> simp [al_add]
   · cases e
  ·split at e
   ·rename_i s hsz hl hk
    cases e
    obtain ⟨it,hit,rfl⟩:=sizeA_ok hsz
    have hb:=bounds_run (P:=c.P) (w:=w) (len:=0) (cap:=0) true (bnd_ok hl σ) (bnd_ok hk σ) (Nat.le_refl _) (Nat.le_refl _)
    refine Yields.stay hs ?_ hx
    simp only [R.val,O.val,V.val,Instr.sliceAt,Sem.run_bind,run_underlying hu,Result.andThen_ok,Instr.slice,hb,sizeOf,run_typeInfo w hit,Sem.run_pure]
    rfl
   · cases e
  · cases e
 · cases e
end Rn
end Go.Proofs.YtfodadedkilgdaaGreatDoor
namespace Go.Proofs.YtfodadedkilgdaaGreatDoor
set_option linter.unusedVariables false
set_option linter.unusedSimpArgs false
open Go.RowKit Mem
namespace Rn
variable {c:Cx} {σ σ':Sg} {h h':H} {w w':World}
theorem fold_set (o:Nat) : ∀ (vs:List Value) (k:Nat) (cs:Array Value),o+k+vs.length≤cs.size →
 ((vs.zipIdx k).foldl (fun cs x=>cs.setIfInBounds (o+x.2) x.1) cs).toList=cs.toList.take (o+k)++vs++cs.toList.drop (o+k+vs.length)
 | [],k,cs,_=>by simp
 | v::vs,k,cs,h=>by
   rw [List.zipIdx_cons,List.foldl_cons,fold_set o vs (k+1) _ (by simp at h ⊢; omega)]
   simp only [List.length_cons] at h
   have hlt:o+k<cs.toList.length:=by simp; omega
   rw [Array.toList_setIfInBounds]
   apply List.ext_getElem?
   intro i
   simp only [List.getElem?_append,List.length_take,List.length_set,Array.length_toList,List.getElem?_take,List.getElem?_set,List.getElem?_drop,List.length_append,List.length_cons]
   have m1:min (o+(k+1)) cs.size=o+k+1:=by omega
   have m2:min (o+k) cs.size=o+k:=by omega
   rw [m1,m2]
   by_cases h1:i<o+k
   · rw [if_pos (by omega),if_pos (by omega),if_pos (by omega),if_neg (by omega),if_pos (by omega),if_pos h1,if_pos h1]
   ·by_cases h2:i=o+k
    ·subst h2
     rw [if_pos (by omega),if_pos (by omega),if_pos (by omega),if_pos rfl,if_pos (by simpa using hlt),if_pos (by omega),if_neg (by omega),Nat.sub_self]
     rfl
    ·by_cases h3:i<o+k+1+vs.length
     · rw [if_pos (by omega),if_neg (by omega),if_pos (by omega),if_neg (by omega),show i-(o+k)=(i-(o+k+1))+1 by omega,List.getElem?_cons_succ]
     ·rw [if_neg (by omega),if_neg (by omega),if_neg (by omega)]
      congr 1
      omega
def fillV (place:Nat→Option (Nat×Nat)) (l:List V):List (Nat×List V)→Option (List V)
 | []=>some l
 | (i,ks)::rest=>match place i with
   | none=>none
   | some (o,n)=>match Nat.beq ks.length n,Nat.ble (o+ks.length) l.length with
     | true,true=>fillV place (putL l o ks) rest
     | _,_=>none
def partsR:List (Nat×R)→Option (List (Nat×List V))
 | []=>some []
 | (i,r)::rest=>match r,partsR rest with
   | .o x,some l=>some ((i,x.cells)::l)
   | _,_=>none
theorem fillV_ok (place:Nat→Option (Nat×Nat)) (σ:Sg) : ∀ (ps:List (Nat×R)) (qs:List (Nat×List V)) (C:Array Value) (l l':List V),C.toList=vals σ l→dfs σ l→(∀ p∈ps,p.2.df σ)→partsR ps=some qs→fillV place l qs=some l' →
 ∃ C':Array Value,Instr.fill place C (ps.map fun p=>(p.1,p.2.val σ))=some C'∧C'.toList=vals σ l'∧dfs σ l'
 | [],qs,C,l,l',hC,hd,_,hq,hf=>by
   cases hq
   cases hf
   exact ⟨C,rfl,hC,hd⟩
 | (i,r)::ps,qs,C,l,l',hC,hd,hp,hq,hf=>by
   unfold partsR at hq
   split at hq
   ·rename_i x q hq'
    cases hq
    unfold fillV at hf
    cases hpl:place i with
    | none=>simp [hpl] at hf
    | some os =>
      obtain ⟨o,n⟩:=os
      simp only [hpl] at hf
      split at hf
      ·rename_i e1 e2
       have e1:=Nat.eq_of_beq_eq_true e1
       have e2:=Nat.le_of_ble_eq_true e2
       have hx:x.df σ:=hp _ (List.mem_cons_self ..)
       have hv:=O.cells_val σ x
       have hsz:(x.val σ).cells.size=x.cells.length:=by
        have:=congrArg List.length hv
        rw [vals_length,Array.length_toList] at this
        exact this
       have hCs:C.size=l.length:=by
        have:=congrArg List.length hC
        rw [vals_length,Array.length_toList] at this
        exact this
       obtain ⟨C',k1,k2⟩:=fillV_ok place σ ps q ((x.val σ).cells.zipIdx.foldl (fun cs x=>cs.setIfInBounds (o+x.2) x.1) C) (putL l o x.cells) l' (by
        have he:((x.val σ).cells.zipIdx.foldl (fun cs x=>cs.setIfInBounds (o+x.2) x.1) C)=(((x.val σ).cells.toList.zipIdx 0).foldl (fun cs x=>cs.setIfInBounds (o+x.2) x.1) C):=by
         rw [← Array.foldl_toList,Array.toList_zipIdx]
        rw [he,fold_set o _ 0 C (by simp; omega),hC,hv,Nat.add_zero,vals_length]
        simp [putL,vals,List.append_assoc]) (putL_df hd hx) (fun p hm=>hp p (List.mem_cons_of_mem _ hm)) hq' hf
       refine ⟨C',?_,k2⟩
       simp only [List.map_cons]
       unfold Instr.fill
       simp only [hpl]
       rw [if_neg (by simp [R.val,hsz,e1,hCs]; omega)]
       exact k1
      · cases hf
   · cases hq
noncomputable def plcs (P:Program) (t:TypeId):Option (Nat→Option (Nat×Nat)):=match P.underlying t with
 | some (.array _ e)=>(sizeA P e).map fun s=>fun i=>some (i*s,s)
 | some (.struct fs)=>(fs.toList.mapM fun f=>(P.info? f.type).map fun i=>(f.offset,i.size)).map fun L=>fun i=>L.toArray[i]?
 | _=>none
noncomputable def buildA (P:Program) (t:TypeId) (ps:List (Nat×R)):Option R:=match plcs P t,zeroA P t,partsR ps with
 | some pl,some z,some qs=>(fillV pl z qs).map fun l => .o (.a l)
 | _,_,_=>none
theorem buildA_ok (hs:Hs c σ h w) {t:TypeId} {ps:List (Nat×R)} {r:R} (hp : ∀ p∈ps,p.2.df σ) {vs:Array (Nat×Value)} (hv:vs.toList=ps.map fun p=>(p.1,p.2.val σ)) (e:buildA c.P t ps=some r):Yields c σ h w (Instr.build t vs) r h:=by
 unfold buildA at e
 split at e
 ·rename_i pl z qs hpl hz hq
  obtain ⟨l,hl,rfl⟩:=Option.map_eq_some_iff.1 e
  obtain ⟨i,zv,hi,hzv,hzc,hzd⟩:=zeroA_ok hz σ w
  obtain ⟨C',k1,k2,k3⟩:=fillV_ok pl σ ps qs zv.cells z l hzc hzd hp hq hl
  refine Yields.stay hs ?_ k3
  have:C'=(vals σ l).toArray:=by rw [← k2,Array.toArray_toList]
  have hb:c.P.built t vs.toList=some C':=by
   unfold Program.built
   unfold plcs at hpl
   split at hpl
   ·rename_i n e hu
    obtain ⟨s,hs',rfl⟩:=Option.map_eq_some_iff.1 hpl
    obtain ⟨ie,hie,rfl⟩:=sizeA_ok hs'
    simp only [hi,hu,hzv,hie,hv]
    exact k1
   ·rename_i fs hu
    obtain ⟨L,hL,rfl⟩:=Option.map_eq_some_iff.1 hpl
    simp only [hi,hu,hzv,hL,hv]
    exact k1
   · cases hpl
  rw [run_build w t vs C' hb,this]
  rfl
 · cases e
def rep (z:List V):Nat→List V
 | 0 => []
 | n+1=>z++rep z n
theorem rep_length (z:List V) : ∀ n,(rep z n).length=n*z.length
 | 0=>by simp [rep]
 | n+1=>by simp only [rep,List.length_append,rep_length z n,Nat.succ_mul]; omega
theorem rep_df {z:List V} (hz:dfs σ z) : ∀ n,dfs σ (rep z n)
 | 0=>fun _ h=>nomatch h
 | n+1=>fun x hx=>(List.mem_append.1 hx).elim (hz x) (rep_df hz n x)
theorem rep_at (z:List V) : ∀ n j,j<n*z.length→(rep z n)[j]? = z[j%z.length]?
 | 0,j,h=>by simp at h
 | n+1,j,h=>by
   rw [rep,List.getElem?_append]
   split
   ·rename_i hj
    rw [Nat.mod_eq_of_lt hj]
   ·rename_i hj
    have e:(n+1)*z.length=n*z.length+z.length:=Nat.succ_mul n _
    rw [rep_at z n _ (by omega)]
    congr 1
    exact (Nat.mod_eq_sub_mod (by omega)).symm
noncomputable def bsA (P:Program) (h:H) (t:TypeId) (n:Nat) (ps:List (Nat×R)):Option (R×Dl):=match P.underlying t with
 | some (.slice e)=>match sizeA P e,zeroA P e,partsR ps with
   | some s,some z,some qs=>match Nat.beq z.length s,Nat.blt 0 (n*s),Nat.ble (n*s) 10000000 with
     | true,true,true=>(fillV (fun i=>some (i*s,s)) (rep z n) qs).map fun l=>(.o (.v (.s h.nx 0 n (.k n))),.new (.l l e none))
     | _,_,_=>none
   | _,_,_=>none
 | _=>none
noncomputable def bs0 (P:Program) (h:H) (t:TypeId):Option (R×Dl):=match P.underlying t with
 | some (.slice e)=>match sizeA P e with
   | some _=>some (.o (.v (.s h.nx 0 0 (.k 0))),.new (.l [] e none))
   | none=>none
 | _=>none
theorem bs0_ok (hs:Hs c σ h w) {t:TypeId} {r:R} {d:Dl} (e:bs0 c.P h t=some (r,d)) (hf:Fr σ h (d.on h)) (hm:h.mr≤h.nx):Yields c σ h w (Instr.buildSlice t 0 #[]) r (d.on h):=by
 unfold bs0 at e
 split at e
 ·rename_i el hu
  split at e
  ·rename_i s hsz
   cases e
   obtain ⟨ie,hi,rfl⟩:=sizeA_ok hsz
   obtain ⟨σ',g1,g2,g3,g4⟩:=alloc_ok hs (t:=el) (l := []) hf hm (fun _ h=>nomatch h)
   refine ⟨.slice (some ⟨w.heap.size,0,none⟩) 0 0,σ',_,?_,g1,g2,?_,(O.df_one (x := .s h.nx 0 0 (.k 0))).2 ⟨g4,Nat.le_refl _⟩⟩
   ·simp [Instr.buildSlice,run_underlying hu,sizeOf,run_typeInfo w hi,Instr.fill,newRow,vals]
    have:Array.range 0 = #[]:=Array.ext' (by simp)
    simp [this]
   · simp only [R.val,O.val,V.val,g3,capOf]
  · cases e
 · cases e
theorem bsA_ok (hs:Hs c σ h w) {t:TypeId} {n:Nat} {ps:List (Nat×R)} {r:R} {d:Dl} (hp : ∀ p∈ps,p.2.df σ) {vs:Array (Nat×Value)} (hv:vs.toList=ps.map fun p=>(p.1,p.2.val σ)) (e:bsA c.P h t n ps=some (r,d)) (hf:Fr σ h (d.on h)) (hm:h.mr≤h.nx):Yields c σ h w (Instr.buildSlice t n vs) r (d.on h):=by
 unfold bsA at e
 split at e
 ·rename_i el hu
  split at e
  ·rename_i s z qs hsz hz hq
   split at e
   ·rename_i e1 e2 e3
    obtain ⟨l,hl,e⟩:=Option.map_eq_some_iff.1 e
    cases e
    have e1:=Nat.eq_of_beq_eq_true e1
    have e2:=blt_ok e2
    have e3:=Nat.le_of_ble_eq_true e3
    obtain ⟨ie,zv,hi,hzv,hzc,hzd⟩:=zeroA_ok hz σ w
    obtain ⟨ie',hi',rfl⟩:=sizeA_ok hsz
    rw [hi] at hi'
    cases hi'
    have hzl:zv.cells.size=z.length:=by
     have:=congrArg List.length hzc
     rw [vals_length,Array.length_toList] at this
     exact this
    obtain ⟨C',k1,k2,k3⟩:=fillV_ok _ σ ps qs ((Array.range (n*ie.size)).map (zv.cells[· % zv.cells.size]!)) (rep z n) l (by
     apply List.ext_getElem?
     intro j
     simp only [Array.toList_map,Array.toList_range,List.getElem?_map,vals]
     by_cases hj:j<n*ie.size
     ·rw [List.getElem?_range hj,rep_at z n j (by rw [e1]; exact hj)]
      have hzp:0<z.length:=by rw [e1]; exact Nat.pos_of_ne_zero fun e=>by rw [e] at e2; simp at e2
      have hm':=Nat.mod_lt j hzp
      simp only [Option.map_some,hzl]
      have h2:zv.cells.toList[j%z.length]? = (vals σ z)[j%z.length]? := by rw [hzc]
      rw [Array.getElem?_toList] at h2
      rw [getElem!_def,h2]
      simp only [vals,List.getElem?_map]
      rw [List.getElem?_eq_getElem hm']
      rfl
     ·rw [List.getElem?_eq_none (by simp; omega),List.getElem?_eq_none (by rw [rep_length,e1]; omega)]
      rfl) (rep_df hzd n) hp hq hl
    obtain ⟨σ',g1,g2,g3,g4⟩:=alloc_ok hs hf hm k3
    have hC:C'=(vals σ l).toArray:=by rw [← k2,Array.toArray_toList]
    have hrun:=run_buildSlice (P:=c.P) w t el n vs C' ie zv hu hi hzv (by omega) (by omega) (by rw [hv]; exact k1)
    refine ⟨_,σ',_,hrun,by rw [hC]; exact g1,by rw [hC]; exact g2,?_,(O.df_one (x := .s h.nx 0 n (.k n))).2 ⟨g4,Nat.le_refl _⟩⟩
    simp only [R.val,O.val,V.val,g3,capOf]
   · cases e
  · cases e
 · cases e
end Rn
end Go.Proofs.YtfodadedkilgdaaGreatDoor
namespace Go.Proofs.YtfodadedkilgdaaGreatDoor
open Go.RowKit
namespace Mem
section
variable {w:World} {base size n m:Nat} {e:TypeId} {v:Value} {xs news:List Value}
theorem run_app_ow3 {w:World} {x:Value} {P:Program} {t tx ty:TypeId} {i:TypeInfo} {z:Value} {bytes:Nat} (ht:P.underlying t=some (.slice e)) (hi:P.info? e=some i) (hz:i.zero=some z)
 (hsize:i.size=size) (hby:i.bytes=bytes) (hzs:z.cells.size=size)
 (hown:Ow w base e size v n xs) (hsrc:Src P size tx x m news w)
 (h63:n+m≤maxLen) (hbytes:(n+m)*bytes≤140737488355328) (hbase:base≤w.heap.size) :
 ∃ v' w',(Builtin.append_ #[t,tx] ty #[v,x]).run P w = .ok v' w'∧Ow w' base e size v' (n+m) (xs++news)∧w.grownBy w' v.ownBlock∧(∀ k,v'.ownBlock=some k→v.ownBlock=some k∨w.heap.size≤k):=by
 subst hsize
 subst hby
 have hlen:(xs++news).length=(n+m)*i.size:=by rw [List.length_append,hown.1,hsrc.newsLen,Nat.add_mul]
 have hsmall:n+m≤9223372036854775807:=by simp only [maxLen] at h63; omega
 have grown : ∀ (p:Option Addr) (old:Nat),old<n+m→v = .slice p n old→(Builtin.firstCells i.size n (.slice p n old)).run P w.drew = .ok xs.toArray w.drew →
  ∃ v' w',(Builtin.append_ #[t,tx] ty #[v,x]).run P w = .ok v' w'∧Ow w' base e i.size v' (n+m) (xs++news)∧w.grownBy w' v.ownBlock∧(∀ k,v'.ownBlock=some k→v.ownBlock=some k∨w.heap.size≤k):=by
  intro p old ho hv hf
  subst hv
  have hr:=run_append_grow_src (P:=P) w t tx ty e i z ht hi hz p n old xs hf x m news hsrc ho (by omega) (growslice_fits (by omega) hbytes)
  have hge:=grownCap_ge w (n+m) old e
  refine ⟨_,_,hr,⟨hlen,.inr ⟨w.heap.size,_,_,(0,0),rfl,hbase,heap_alloc_new w.drew _,fun j _=>by simp,hge,grownCap_le_maxLen w (n+m) old e h63,?_,?_⟩⟩,⟨rfl,rfl,rfl,by simp,fun k hk _=>Rg.heap_alloc_past w.drew _ k hk⟩,fun k hk => .inr (by cases hk; exact Nat.le_refl _)⟩
  ·simp only [Array.size_append,List.size_toArray,zeroCells_size,hzs,hlen,← Nat.add_mul]
   congr 1
   omega
  ·simp only [Array.toList_append]
   rw [← hlen]
   exact List.take_left
 rcases hown.2 with ⟨rfl,rfl⟩ | ⟨g,cap,cur,fz,rfl,hbg,hg,hfz,hnc,hcm,hcs,htake⟩
 ·have hx:xs = []:=List.eq_nil_of_length_eq_zero (by simpa using hown.1)
  subst hx
  by_cases hm:m=0
  ·subst hm
   have hn:news = []:=List.eq_nil_of_length_eq_zero (by simpa using hsrc.newsLen)
   subst hn
   refine ⟨.slice none 0 0,w,?_,Ow.nil w base e i.size,⟨rfl,rfl,rfl,Nat.le_refl _,fun _ _ _=>rfl⟩,fun k hk=>by cases hk⟩
   have hc:=hsrc.cells
   rcases hsrc.kind with ⟨e',hk⟩ | hk <;> simp [Builtin.append_,run_underlying ht,run_underlying hk,sizeOf,typeInfo,hi,hsrc.len,hc]
  · exact grown none 0 (by omega) rfl (run_firstCells_none w.drew i.size 0 0 0)
 ·by_cases hroom:n+m≤cap
  ·have hfit:n*i.size+news.length≤cur.size:=by rw [hsrc.newsLen,hcs,← Nat.add_mul]; exact Nat.mul_le_mul_right _ hroom
   have hr:=run_append_room_src (P:=P) w t tx ty e i ht hi g 0 n cap x m news hsrc hroom
    (fun j hj=>by rw [cell_of_row w g _ cur e fz hg]; have:0+n*i.size+j<cur.size:=by omega
                  rw [Array.getElem?_eq_getElem this]; rfl)
    (fun j hj=>by
     have:=hfz (0+n*i.size+j) (by omega)
     unfold World.frozen?; simp only [hg]
     obtain ⟨lo,hi'⟩:=fz
     simp only [Bool.and_eq_false_iff,decide_eq_false_iff_not]
     simp only [not_and] at this
     by_cases h:lo≤0+n*i.size+j
     · exact .inr (this h)
     · exact .inl h)
   obtain ⟨cur',h2,h3,h4,h5⟩:=setCells_block g e fz news (0+n*i.size) w cur hg
   refine ⟨_,_,hr,⟨hlen,.inr ⟨g,cap,cur',fz,rfl,hbg,h2,fun j hj=>hfz j (by omega),hroom,hcm,by omega,?_⟩⟩,h5,fun k hk => .inl hk⟩
   apply List.ext_getElem?
   intro j
   rw [List.getElem?_take]
   have hx:(xs:List Value)[j]? = if j<n*i.size then cur[j]? else none:=by
    rw [← htake,List.getElem?_take]; simp
   have hxl:=hown.1
   by_cases hj:j<(n+m)*i.size
   ·rw [if_pos hj]
    have hj':j<cur.size:=by
     have:=Nat.mul_le_mul_right i.size hroom; omega
    have e4:=h4 j
    simp only [Nat.zero_add] at e4
    rw [Array.getElem?_toList,e4]
    rw [← hlen,List.length_append] at hj
    by_cases hjn:n*i.size≤j
    · rw [if_pos (by omega),List.getElem?_append_right (by omega),hxl]
    · rw [if_neg (by omega),List.getElem?_append_left (by omega),hx,if_pos (by omega)]
   · rw [if_neg hj,List.getElem?_eq_none (by omega)]
  ·refine grown (some ⟨g,0,none⟩) cap (by omega) rfl ?_
   have hrd:=Rd.of_ow hown
   rcases hrd.2 with ⟨hv,_⟩ | ⟨b,off,cap',hv,_,_,_,hc⟩
   · cases hv
   ·cases hv
    exact run_firstCells_some w.drew i.size n ⟨g,0,none⟩ n cap xs hown.1 (fun j u hu=>by rw [addr_add]; simpa using hc j u hu)
end
end Mem
end Go.Proofs.YtfodadedkilgdaaGreatDoor
namespace Go.Proofs.YtfodadedkilgdaaGreatDoor
set_option linter.unusedVariables false
set_option linter.unusedSimpArgs false
open Go.RowKit Mem
namespace Rn
variable {c:Cx} {σ σ':Sg} {h h1 h':H} {w w':World}
theorem B.df_le (hle:Le σ σ') {x:B} (hd:x.df σ):x.df σ':=by
 cases x with
 | l c t e=>exact (vals_mono hle (l:=c) hd).2
 | m es n=>exact (ent_mono hle (es:=es) hd).2
theorem Hs.join (hs:Hs c σ h1 w') (st:St σ σ h h1 w w') (hf:σ.β h1.nx=none) (hm:h1.mr≤h1.nx) {x:B} {a g:Nat} (hne : ∀ b y,h1.at b=some y→σ.bl b≠a) (hb:c.base≤a)
 (had:w.heap.size≤a ∨ ∃ b0 x0,h.at b0=some x0∧a=σ.bl b0) (hx:x.at (σ.name h1.nx a g) h1.nx w') (hd:x.df σ) :
 Hs c (σ.name h1.nx a g) (h1.new x) w'∧St σ (σ.name h1.nx a g) h (h1.new x) w w':=by
 have hle:Le σ (σ.name h1.nx a g):=Sg.name_le hf
 have old : ∀ b y,h1.at b=some y→y.at (σ.name h1.nx a g) b w'∧y.df (σ.name h1.nx a g)∧(σ.name h1.nx a g).bl b=σ.bl b∧b≠h1.nx:=fun b y hy=>by
  obtain ⟨e1,e2,e3,e4⟩:=hs.blk b y hy
  obtain ⟨k1,k2⟩:=B.mono hle e2 e4 e1
  exact ⟨k1,k2,(hle.bl e4).1,fun e=>by obtain ⟨z,hz⟩:=e4; rw [e,hf] at hz; cases hz⟩
 refine ⟨⟨fun b y hy => ?_,fun b1 b2 x1 x2 e1 e2 e => ?_,hs.inv,hs.le,hs.fx,fun m hm=>(hs.me m hm).mono hle⟩,hle,fun n hn=>if_neg fun e=>hn ⟨by have:=st.nx; omega,by subst e; exact Nat.lt_succ_self _⟩,fun n hn=>st.so n hn,Nat.le_succ_of_le st.nx,st.ob,st.kp,st.mr,st.wr,fun b hb' hw=>(H.new_ne (by have:=st.mr; omega)).trans (st.ch b hb' hw),fun b y hy => ?_,fun b y hy => ?_⟩
 ·rcases H.new_at hy with ⟨rfl,rfl⟩ | ⟨hb',hy⟩
  · exact ⟨hx,B.df_le hle hd,by rw [Sg.name_bl.1]; exact hb,_,Sg.name_bl.2.2⟩
  ·obtain ⟨k1,k2,k3,k4⟩:=old b y hy
   exact ⟨k1,k2,by rw [k3]; exact (hs.blk b y hy).2.2.1,(hs.blk b y hy).2.2.2.imp fun z hz=>(hle.b b z hz).1⟩
 ·rcases H.new_at e1 with ⟨rfl,rfl⟩ | ⟨hb1,f1⟩ <;> rcases H.new_at e2 with ⟨rfl,rfl⟩ | ⟨hb2,f2⟩
  · rfl
  ·rw [Sg.name_bl.1,(old b2 x2 f2).2.2.1] at e
   exact absurd e.symm (hne _ _ f2)
  ·rw [Sg.name_bl.1,(old b1 x1 f1).2.2.1] at e
   exact absurd e (hne _ _ f1)
  ·rw [(old b1 x1 f1).2.2.1,(old b2 x2 f2).2.2.1] at e
   exact hs.inj _ _ _ _ f1 f2 e
 ·rcases H.new_at hy with ⟨rfl,_⟩ | ⟨_,hy⟩
  · exact .inr ⟨st.nx,Nat.lt_succ_self _⟩
  · exact (st.nw b y hy).imp id fun e=>⟨e.1,Nat.lt_succ_of_lt e.2⟩
 ·rcases H.new_at hy with ⟨rfl,_⟩ | ⟨_,hy⟩
  · rw [Sg.name_bl.1]; exact had
  · rw [(old b y hy).2.2.1]; exact st.ad b y hy
noncomputable def dstA (h:H) (e s:Nat):V→Option (Nat×List V×Option Nat)
 | .ns=>some (0,[],none)
 | .s b o n cp=>match o,h.at b with
   | 0,some (.l l t ee)=>match Nat.beq t e,Nat.ble (n*s) l.length,(match cp,ee with
      | .k cap,none=>match Nat.beq (cap*s) l.length with | true=>Nat.ble cap 1000000 | false=>false
      | .g 0,some s'=>Nat.beq s s'
      | _,_=>false) with
     | true,true,true=>some (n,l.take (n*s),some b)
     | _,_,_=>none
   | _,_=>none
 | _=>none
noncomputable def srcA (h:H) (s:Nat):V→Option (Nat×List V)
 | .ns=>some (0,[])
 | .se _ _ _ _ _=>some (0,[])
 | .s b o m _=>match h.at b with
   | some (.l l _ _)=>match Nat.ble (o+m*s) l.length with
     | true=>some (m,seg l o (m*s))
     | false=>none
   | _=>none
 | _=>none
theorem dstA_ok (hs:Hs c σ h w) {e s n:Nat} {x:V} {xs:List V} {k:Option Nat} (hx:x.df σ) (he:dstA h e s x=some (n,xs,k)) :
 Ow w c.base e s (x.val σ) n (vals σ xs)∧dfs σ xs∧(x.val σ).ownBlock=k.map σ.bl ∧ ∀ b,k=some b → ∃ y,h.at b=some y:=by
 unfold dstA at he
 split at he
 ·cases he
  exact ⟨Ow.nil _ _ _ _,(fun _ h=>nomatch h),rfl,(fun _ h=>nomatch h)⟩
 ·rename_i b o n' cp
  split at he
  ·rename_i l t ee hb
   split at he
   ·rename_i e1 e2 e3
    cases he
    obtain rfl:=Nat.eq_of_beq_eq_true e1
    have e2:=Nat.le_of_ble_eq_true e2
    obtain ⟨k1,k2,k3,k4⟩:=hs.blk b _ hb
    refine ⟨?_,fun y hy=>k2 y (List.mem_of_mem_take hy),rfl,fun b' hb'=>by cases hb'; exact ⟨_,hb⟩⟩
    have hl:(vals σ (l.take (n*s))).length=n*s:=by rw [vals_length,List.length_take]; omega
    refine ⟨hl,.inr ?_⟩
    split at e3
    ·rename_i cap
     split at e3
     ·rename_i e4
      have e4:=Nat.eq_of_beq_eq_true e4
      have e3:=Nat.le_of_ble_eq_true e3
      obtain ⟨f,g1,g2⟩:=k1
      exact ⟨_,cap,_,f,rfl,k3,g1,fun j hj=>g2.fz j (by simpa [vals_length] using hj),hx.2,Nat.le_trans e3 (by unfold maxLen; omega),by simp [vals_length,e4],by simp [vals,List.map_take]⟩
     · cases e3
    ·rename_i s'
     obtain rfl:=Nat.eq_of_beq_eq_true e3
     obtain ⟨C,f,g1,g2,g3,g4,g5⟩:=k1
     refine ⟨_,_,C,f,rfl,k3,g1,g2,hx.2,by simpa [capOf] using g5,by simpa [capOf] using g3,?_⟩
     have:vals σ (l.take (n*s))=(C.toList.take l.length).take (n*s):=by rw [g4]; simp [vals,List.map_take]
     rw [this,List.take_take,Nat.min_eq_left e2]
    · cases e3
   · cases he
  · cases he
 · cases he
theorem srcA_ok (hs:Hs c σ h w) {s m tx e':Nat} {x:V} {ys:List V} (hu:c.P.underlying tx=some (.slice e')) (hx:x.df σ) (he:srcA h s x=some (m,ys)):Src c.P s tx (x.val σ) m (vals σ ys) w∧dfs σ ys:=by
 unfold srcA at he
 split at he
 ·cases he
  exact ⟨Src.ofNil w hu 0,(fun _ h=>nomatch h)⟩
 ·cases he
  exact ⟨Src.ofSlice w hu _ 0 _ [] (by simp) (fun j u hj=>by simp at hj) (fun _ h=>nomatch h),(fun _ h=>nomatch h)⟩
 ·rename_i b o m' cp
  split at he
  ·rename_i l t ee hb
   split at he
   ·rename_i e1
    cases he
    have e1:=Nat.le_of_ble_eq_true e1
    obtain ⟨k1,k2,k3,k4⟩:=hs.blk b _ hb
    obtain ⟨C,f,hr,ht,hl,_⟩:=B.row k1 (.inr (by rw [vals_length]; exact Nat.le_refl _))
    have hln:(vals σ (seg l o (m*s))).length=m*s:=by rw [vals_length]; unfold seg; rw [List.length_take,List.length_drop]; omega
    refine ⟨Src.ofSlice w hu _ m _ _ hln (fun j u hj => ?_) (vals_one σ _),seg_df k2 o _⟩
    have hj':j<m*s:=by rw [← hln]; exact (List.getElem?_eq_some_iff.1 hj).1
    rw [al_add,cell_of_row w _ _ _ _ _ hr]
    have h2:C[o+j]? = (vals σ l)[o+j]? := by rw [← ht,List.getElem?_take,if_pos (by omega)]; simp
    rw [h2,← hj]
    simp only [vals,seg,List.getElem?_map,List.getElem?_take,List.getElem?_drop,if_pos hj']
   · cases he
  · cases he
 · cases he
theorem strike_ok (hs:Hs c σ h w) {k:Option Nat} (hk : ∀ b,k=some b → ∃ y,h.at b=some y) (hg:w.grownBy w' (k.map σ.bl)):Hs c σ (strike h k) w'∧St σ σ h (strike h k) w w' ∧ ∀ b y,(strike h k).at b=some y→h.at b=some y∧k≠some b:=by
 cases k with
 | none =>
   obtain ⟨k1,k2⟩:=hs.low (w':=w') ⟨hg.os,hg.tape,hg.output,hg.size,fun k hk=>hg.block k hk (by simp)⟩
   exact ⟨k1,k2,fun b y hy=>⟨hy,by simp⟩⟩
 | some b =>
   obtain ⟨y,hy⟩:=hk b rfl
   obtain ⟨k1,k2⟩:=hs.put hy (x:=none) (w':=w') ⟨hg.os,hg.tape,hg.output,hg.size,fun k hk hn=>hg.block k hk (fun e=>hn (Option.some.inj e))⟩ (fun _ h=>nomatch h)
   refine ⟨k1,k2,fun b' y' hy' => ?_⟩
   rcases H.put_at hy' with ⟨_,h⟩ | ⟨hne,h⟩
   · cases h
   · exact ⟨h,fun e=>hne (Option.some.inj e).symm⟩
theorem app_end (hs:Hs c σ h w) {n m e sz:Nat} {xs ys:List V} {k:Option Nat} {X:Value} {q:Sem Value} (hf:Fr σ h ((Dl.app k (.l (xs++ys) e (some sz))).on h)) (hm:h.mr≤h.nx) (d2:dfs σ xs) (d3:X.ownBlock=k.map σ.bl)
 (d4 : ∀ b,k=some b → ∃ y,h.at b=some y) (s2:dfs σ ys) {v':Value} (r1:q.run c.P w = .ok v' w') (r2:Ow w' c.base e sz v' (n+m) (vals σ xs++vals σ ys)) (r3:w.grownBy w' X.ownBlock)
 (r4 : ∀ k',v'.ownBlock=some k'→X.ownBlock=some k'∨w.heap.size≤k') (hpos:0<n+m):Yields c σ h w q (.o (.v (.s h.nx 0 (n+m) (.g 0)))) ((Dl.app k (.l (xs++ys) e (some sz))).on h):=by
 rw [d3] at r3 r4
 obtain ⟨k1,k2,k3⟩:=strike_ok hs d4 r3
 rcases r2.2 with ⟨_,h0⟩ | ⟨g,cap,cur,fz,rfl,g1,g2,g3,g4,g5,g6,g7⟩
 · omega
 have hnx:(strike h k).nx=h.nx:=by cases k <;> rfl
 have hmr:(strike h k).mr=h.mr:=by cases k <;> rfl
 have hfn:σ.β (strike h k).nx=none:=hf.1 _ (by rw [hnx]; exact Nat.le_refl _) (Nat.lt_succ_self _)
 have hle:Le σ (σ.name (strike h k).nx g cap):=Sg.name_le hfn
 have hdf:dfs σ (xs++ys):=fun u hu=>(List.mem_append.1 hu).elim (d2 u) (s2 u)
 have hvl:vals σ (xs++ys)=vals σ xs++vals σ ys:=List.map_append ..
 obtain ⟨j1,j2⟩:=k1.join k2 hfn (by rw [hnx,hmr]; exact hm) (x := .l (xs++ys) e (some sz)) (a:=g) (g:=cap) (fun b y' hb' eb=>by
  obtain ⟨q1,q2⟩:=k3 b y' hb'
  rcases r4 g rfl with e | e
  ·cases k with
   | none=>cases e
   | some b0 =>
     obtain ⟨y0,hy0⟩:=d4 b0 rfl
     have e:σ.bl b0=g:=Option.some.inj e
     exact q2 (by rw [hs.inj _ _ _ _ hy0 q1 (e.trans eb.symm)])
  ·have:=B.lt (hs.blk b y' q1).1
   omega) g1 (by
  rcases r4 g rfl with e | e
  ·cases k with
   | none=>cases e
   | some b0 =>
     obtain ⟨y0,hy0⟩:=d4 b0 rfl
     exact .inr ⟨b0,y0,hy0,(Option.some.inj e).symm⟩
  ·exact .inl e) ⟨cur,fz,by rw [Sg.name_bl.1]; exact g2,g3,by rw [Sg.name_bl.2.1]; exact g6,by
   rw [(vals_mono hle hdf).1,hvl]
   have:(xs++ys).length=(n+m)*sz:=by
    have:=r2.1
    rw [← hvl,vals_length] at this
    exact this
   rw [this]
   exact g7,by rw [Sg.name_bl.2.1]; exact g5⟩ hdf
 rw [hnx] at j1 j2
 refine ⟨_,_,w',r1,j1,j2,?_,(O.df_one (x := .s h.nx 0 (n+m) (.g 0))).2 ⟨⟨_,Sg.name_bl.2.2⟩,by simp only [capOf,Sg.name_bl.2.1]; omega⟩⟩
 simp only [R.val,O.val,V.val,capOf,Sg.name_bl.1,Sg.name_bl.2.1,Nat.sub_zero]
end Rn
end Go.Proofs.YtfodadedkilgdaaGreatDoor

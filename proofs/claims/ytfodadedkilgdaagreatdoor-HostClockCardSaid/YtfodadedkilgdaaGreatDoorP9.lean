/- A part of the proof. Plain; no condition. -/
import Derived.Test.YtfodadedkilgdaaGreatDoorP8
namespace Go.Proofs.YtfodadedkilgdaaGreatDoor
set_option linter.unusedVariables false
set_option linter.unusedSimpArgs false
open Go.RowKit Mem
namespace Rn
variable {c:Cx} {σ σ':Sg} {h h1 h':H} {w w':World}
theorem df_t0:(R.t []).df σ:=fun _ h=>nomatch h
theorem ent_list (σ:Sg) (es:List (V×O×Nat)):((es.map (ent σ)).toArray).toList=es.map (ent σ):=by simp
theorem bytes_same (s:ByteArray):(s==s)=true:=by rw [beq_toListBytes]; simp
theorem upd_old {P:Program} {t key elem:TypeId} (hu:P.underlying t=some (.map key elem)) (hk:P.underlying key=some .string) {r:Nat} {es:Array MapEntry} {clock:Nat} (hm:w.heap[r]? = some (.map es clock)) {s:ByteArray} {v x:Value} {j:Nat}
 (hq:Instr.findNow .string (.string s) es.toList 0=some (some (j,x))) (hold:((es[j]?).map (·.key)).getD (.string s) = .string s) (hset:(setObj r (.map (es.modify j fun e => {e with key := .string s,val:=v}) clock)).run P w = .ok () w') :
 (Instr.mapUpdate t (.map (some r)) (.string s) v).run P w = .ok () w':=by
 simp only [Instr.mapUpdate,Sem.run_bind,run_underlying hu,Result.andThen_ok,Go.MapKept.run_getObj_map (P:=P) hm,Sem.run_pure,check_text hk,Instr.findKey,run_underlying hk,hq,hold,Instr.keyThatStays,Instr.sameBits,bytes_same,if_true,hset]
theorem upd_new {P:Program} {t key elem:TypeId} (hu:P.underlying t=some (.map key elem)) (hk:P.underlying key=some .string) {r:Nat} {es:Array MapEntry} {clock:Nat} (hm:w.heap[r]? = some (.map es clock)) {s:ByteArray} {v:Value}
 (hq:Instr.findNow .string (.string s) es.toList 0=some none) (hset:(setObj r (.map (es.push {key := .string s,val:=v,born:=clock}) (clock+1))).run P w = .ok () w') :
 (Instr.mapUpdate t (.map (some r)) (.string s) v).run P w = .ok () w':=by
 simp only [Instr.mapUpdate,Sem.run_bind,run_underlying hu,Result.andThen_ok,Go.MapKept.run_getObj_map (P:=P) hm,Sem.run_pure,check_text hk,Instr.findKey,run_underlying hk,hq,hset]
theorem upA_ok (hs:Hs c σ h w) {t:TypeId} {x i:R} {v:O} {d:Dl} (hi:i.df σ) (hv:v.df σ) (e:upA c.P h t x i v=some d):Turns c σ h w (Instr.mapUpdate t (x.val σ) (i.val σ) (v.val σ)) (d.on h):=by
 unfold upA at e
 split at e
 ·rename_i key elem b k hu
  split at e
  ·rename_i es n hk hb
   obtain ⟨b1,b2,_⟩:=hs.blk b _ hb
   have hm:w.heap[σ.bl b]? = some (.map (es.map (ent σ)).toArray n):=b1
   have hk' : ∀ y∈k,y.df σ:=O.df_one.1 hi
   split at e
   ·rename_i j v' hf
    cases e
    have hq:=findE_ok σ hf
    obtain ⟨_,e0,l0,he0,hl0,_,hke⟩:=findE_at σ hf
    rw [Nat.sub_zero] at he0
    obtain ⟨m1,m2,m3⟩:=map_put (n':=n) hs hb (es':=es.modify j fun e=>(.t k,v,e.2.2)) (fun e he=>by
     obtain ⟨i,hi⟩:=List.getElem?_of_mem he
     rw [List.getElem?_modify] at hi
     cases h1:es[i]? with
     | none=>rw [h1] at hi; cases hi
     | some e1 =>
       rw [h1] at hi
       have hi:some (if j=i then (V.t k,v,e1.2.2) else e1)=some e:=hi
       have hi:=Option.some.inj hi
       split at hi
       · subst hi; exact ⟨hk',hv⟩
       · subst hi; exact b2 e1 (List.mem_of_getElem? h1))
    refine ⟨_,?_,m2,m3⟩
    have hkk:(V.t l0).val σ=(V.t k).val σ:=by simp only [V.val,hke]
    have hold:((((es.map (ent σ)).toArray[j]?).map (·.key)).getD ((V.t k).val σ))=(V.t k).val σ:=by
     simp [he0,ent,hl0,hkk]
    have hmod:((es.map (ent σ)).toArray.modify j fun e => {e with key:=(V.t k).val σ,val:=v.val σ})=((es.modify j fun e=>(.t k,v,e.2.2)).map (ent σ)).toArray:=by
     apply Array.ext'
     simp only [Array.toList_modify]
     apply List.ext_getElem?
     intro i
     simp only [List.getElem?_modify,List.getElem?_map]
     cases es[i]? with
     | none=>rfl
     | some e=>by_cases hij:j=i <;> simp [hij,ent]
    refine upd_old hu hk hm (by rw [ent_list]; exact hq) hold ?_
    exact (congrArg (fun E=>(setObj (σ.bl b) (.map E n)).run c.P w) hmod).trans m1
   ·rename_i hf
    cases e
    have hq:=findE_ok σ hf
    obtain ⟨m1,m2,m3⟩:=map_put (n':=n+1) hs hb (es':=es ++ [(.t k,v,n)]) (fun e he=>by
     rcases List.mem_append.1 he with he | he
     · exact b2 e he
     · rw [List.mem_singleton.1 he]; exact ⟨hk',hv⟩)
    refine ⟨_,?_,m2,m3⟩
    have hpush:(es.map (ent σ)).toArray.push {key:=(V.t k).val σ,val:=v.val σ,born:=n}=((es ++ [(V.t k,v,n)]).map (ent σ)).toArray:=by
     simp [ent]
    refine upd_new hu hk hm (by rw [ent_list]; exact hq) ?_
    exact (congrArg (fun E=>(setObj (σ.bl b) (.map E (n+1))).run c.P w) hpush).trans m1
   · cases e
  · cases e
 · cases e
theorem erase_map {α β:Type} (f:α→β) : ∀ (l:List α) (j:Nat),(l.map f).eraseIdx j=(l.eraseIdx j).map f
 | [],_=>rfl
 | a::l,0=>rfl
 | a::l,j+1=>by simp [erase_map f l j]
theorem delA_ok (hs:Hs c σ h w) {t kt ty:TypeId} {x i:R} {d:Dl} (e:delA c.P h t x i=some d):Yields c σ h w (Builtin.delete_ #[t,kt] ty #[x.val σ,i.val σ]) (.t []) (d.on h):=by
 unfold delA at e
 split at e
 ·rename_i key elem b k hu
  split at e
  ·rename_i es n hk hb
   obtain ⟨b1,b2,_⟩:=hs.blk b _ hb
   have hm:w.heap[σ.bl b]? = some (.map (es.map (ent σ)).toArray n):=b1
   split at e
   ·rename_i j v' hf
    cases e
    have hq:=findE_ok σ hf
    obtain ⟨m1,m2,m3⟩:=map_put (n':=n) hs hb (es':=es.eraseIdx j) (fun e he=>b2 e (List.mem_of_mem_eraseIdx he))
    refine ⟨_,σ,_,?_,m2,m3,rfl,df_t0⟩
    have her:(es.map (ent σ)).toArray.eraseIdxIfInBounds j=((es.eraseIdx j).map (ent σ)).toArray:=by
     apply Array.ext'
     simp [erase_map]
    simp only [V.val] at hq
    simp only [Builtin.delete_,List.getElem?_toArray,List.getElem?_cons_zero,List.getElem?_cons_succ,Sem.run_bind,run_underlying hu,Result.andThen_ok,R.val,O.val,V.val,Go.MapKept.run_getObj_map (P:=c.P) hm,Sem.run_pure,check_text hk,Instr.findKey,run_underlying hk,hq,Option.map_some,her,m1,List.map_nil]
   ·rename_i hf
    cases e
    have hq:=findE_ok σ hf
    obtain ⟨m1,m2,m3⟩:=map_put (n':=n) hs hb (es':=es) b2
    refine ⟨_,σ,_,?_,m2,m3,rfl,df_t0⟩
    simp only [V.val] at hq
    simp only [Builtin.delete_,List.getElem?_toArray,List.getElem?_cons_zero,List.getElem?_cons_succ,Sem.run_bind,run_underlying hu,Result.andThen_ok,R.val,O.val,V.val,Go.MapKept.run_getObj_map (P:=c.P) hm,Sem.run_pure,check_text hk,Instr.findKey,run_underlying hk,hq,Option.map_none,m1,List.map_nil]
   · cases e
  · cases e
 · cases e
theorem clA_ok (hs:Hs c σ h w) {t ty:TypeId} {x:V} {d:Dl} (e:clA c.P h t x=some d):Yields c σ h w (Builtin.clear_ #[t] ty #[x.val σ]) (.t []) (d.on h):=by
 have none : ∀ {b:Option Addr} {n cap:Nat},(b=none∨n=0) → ∀ {ds:TypeDesc},c.P.underlying t=some ds→(Builtin.clear_ #[t] ty #[.slice b n cap]).run c.P w = .ok (.tuple #[]) w:=by
  intro b n cap hb ds hu
  rcases hb with rfl | rfl
  · simp [Builtin.clear_,run_underlying hu]
  · cases b <;> simp [Builtin.clear_,run_underlying hu]
 unfold clA at e
 split at e
 ·split at e
  ·rename_i ds hu
   cases e
   exact Yields.stay hs (none (.inl rfl) hu) df_t0
  · cases e
 ·split at e
  ·rename_i ds hu
   cases e
   exact Yields.stay hs (none (.inr rfl) hu) df_t0
  · cases e
 ·rename_i b o n cp
  split at e
  ·split at e
   ·rename_i ds hu
    cases e
    exact Yields.stay hs (none (.inr rfl) hu) df_t0
   · cases e
  ·rename_i n
   split at e
   ·rename_i el hu
    split at e
    ·rename_i z s l t' ee hz hsz hb
     split at e
     ·rename_i e1 e2
      cases e
      have e1:=Nat.eq_of_beq_eq_true e1
      have e2:=Nat.le_of_ble_eq_true e2
      obtain ⟨i,zv,hi,hzv,hzc,hzd⟩:=zeroA_ok hz σ w
      obtain ⟨i',hi',rfl⟩:=sizeA_ok hsz
      rw [hi] at hi'
      cases hi'
      obtain ⟨k1,k2,k3⟩:=store_cells hs hb (ks:=rep z (n+1)) (o:=o) (rep_df hzd _) (by rw [rep_length,e1]; exact e2)
      refine ⟨_,σ,_,?_,k2,k3,rfl,df_t0⟩
      have hzl:zv.cells.size=i.size:=by
       have:=congrArg List.length hzc
       rw [vals_length,Array.length_toList] at this
       omega
      have hv:(Builtin.zeroCells zv.cells (n+1)).toList=vals σ (rep z (n+1)):=by
       rw [← rep_vals (σ:=σ) hzc e1 (n+1)]
       unfold Builtin.zeroCells
       rw [hzl]
      have hzr:(zeroValue el).run c.P w = .ok zv w:=by simp [zeroValue,run_typeInfo w hi,hzv]
      simp only [Builtin.clear_,List.getElem?_toArray,List.getElem?_cons_zero,Sem.run_bind,run_underlying hu,Result.andThen_ok,Sem.run_pure,V.val,hzr,hv,k1]
      rfl
     · cases e
    · cases e
   · cases e
 ·rename_i b
  split at e
  ·rename_i kk el es n hu hb
   cases e
   obtain ⟨b1,_⟩:=hs.blk b _ hb
   have hm:w.heap[σ.bl b]? = some (.map (es.map (ent σ)).toArray n):=b1
   obtain ⟨m1,m2,m3⟩:=map_put (n':=n) hs hb (es' := []) (fun _ h=>nomatch h)
   refine ⟨_,σ,_,?_,m2,m3,rfl,df_t0⟩
   simp only [List.map_nil] at m1
   simp only [Builtin.clear_,List.getElem?_toArray,List.getElem?_cons_zero,Sem.run_bind,run_underlying hu,Result.andThen_ok,Sem.run_pure,V.val,Go.MapKept.run_getObj_map (P:=c.P) hm,m1]
   rfl
  · cases e
 · cases e
def keep (r:Option R):Option (R×Dl):=r.map fun r=>(r,.no)
def ofU (d:Option Dl):Option (R×Dl):=d.map fun d=>(.u,d)
theorem keep_some {r:Option R} {x:R} {d:Dl} (e:keep r=some (x,d)):r=some x∧d = .no:=by
 obtain ⟨y,h1,h2⟩:=Option.map_eq_some_iff.1 e
 cases h2
 exact ⟨h1,rfl⟩
theorem ofU_some {r:Option Dl} {x:R} {d:Dl} (e:ofU r=some (x,d)):r=some d∧x = .u:=by
 obtain ⟨y,h1,h2⟩:=Option.map_eq_some_iff.1 e
 cases h2
 exact ⟨h1,rfl⟩
section
variable (ev:Operand→Option R)
def evs:List Operand→Option (List R)
 | []=>some []
 | x::r=>match ev x,evs r with
   | some a,some l=>some (a::l)
   | _,_=>none
def evp:List (Nat×Operand)→Option (List (Nat×R))
 | []=>some []
 | x::r=>match ev x.2,evp r with
   | some a,some l=>some ((x.1,a)::l)
   | _,_=>none
def evo:Option Operand→Option (Option R)
 | none=>some none
 | some x=>(ev x).map some
end
theorem evs_ok {ev:Operand→Option R} {ρ:Operand→Value} : ∀ {xs:List Operand} {l:List R},(∀ x r,x∈xs→ev x=some r→ρ x=r.val σ∧r.df σ)→evs ev xs=some l→xs.map ρ=l.map (R.val σ) ∧ ∀ r∈l,r.df σ
 | [],l,_,e=>by cases e; exact ⟨rfl,fun _ h=>nomatch h⟩
 | x::xs,l,hr,e=>by
   unfold evs at e
   split at e
   ·rename_i a m h1 h2
    cases e
    obtain ⟨k1,k2⟩:=hr x a (List.mem_cons_self ..) h1
    obtain ⟨k3,k4⟩:=evs_ok (fun y r hy=>hr y r (List.mem_cons_of_mem _ hy)) h2
    exact ⟨by rw [List.map_cons,List.map_cons,k1,k3],fun r hr=>(List.mem_cons.1 hr).elim (fun e=>e ▸ k2) (k4 r)⟩
   · cases e
theorem evp_ok {ev:Operand→Option R} {ρ:Operand→Value} : ∀ {xs:List (Nat×Operand)} {l:List (Nat×R)},(∀ x r,x∈xs.map (·.2)→ev x=some r→ρ x=r.val σ∧r.df σ)→evp ev xs=some l→xs.map (fun p=>(p.1,ρ p.2))=l.map (fun p=>(p.1,p.2.val σ)) ∧ ∀ p∈l,p.2.df σ
 | [],l,_,e=>by cases e; exact ⟨rfl,fun _ h=>nomatch h⟩
 | x::xs,l,hr,e=>by
   unfold evp at e
   split at e
   ·rename_i a m h1 h2
    cases e
    obtain ⟨k1,k2⟩:=hr x.2 a (List.mem_cons_self ..) h1
    obtain ⟨k3,k4⟩:=evp_ok (fun y r hy=>hr y r (List.mem_cons_of_mem _ hy)) h2
    exact ⟨by rw [List.map_cons,List.map_cons,k1,k3],fun r hr=>(List.mem_cons.1 hr).elim (fun e=>e ▸ k2) (k4 r)⟩
   · cases e
theorem evo_ok {ev:Operand→Option R} {ρ:Operand→Value} {x:Option Operand} {l:Option R} (hr : ∀ y r,y∈x→ev y=some r→ρ y=r.val σ∧r.df σ) (e:evo ev x=some l):x.map ρ=l.map (R.val σ):=by
 cases x with
 | none=>cases e; rfl
 | some x =>
   obtain ⟨r,h1,rfl⟩:=Option.map_eq_some_iff.1 e
   rw [Option.map_some,Option.map_some,(hr x r rfl h1).1]
noncomputable def builtA (P:Program) (h:H) (b:Builtin) (ts:List TypeId) (l:List R):Option (R×Dl):=match b,ts,l with
 | .append,[t,tx],[.o (.v x),.o (.v y)]=>apA P h t tx x y
 | .len,[t],[r]=>keep (lenA P h t r)
 | .cap,[t],[r]=>keep (capA P t r)
 | .copy,[t,_],[.o (.v x),.o (.v y)]=>cpA P h t x y
 | .delete,[t,_],[x,i]=>(delA P h t x i).map fun d=>(.t [],d)
 | .clear,[t],[.o (.v x)]=>(clA P h t x).map fun d=>(.t [],d)
 | .min,_,[.o (.v (.i k n)),.o (.v (.i _ m))]=>some (.o (.v (.i k (match decide (m<n) with | true=>m | false=>n))),.no)
 | _,_,_=>none
theorem builtA_ok (hs:Hs c σ h w) {b:Builtin} {ts:Array TypeId} {ty:TypeId} {cs:Array Bool} {l:List R} {args:Array Value} {r:R} {d:Dl} (ha:args.toList=l.map (R.val σ)) (hl : ∀ x∈l,x.df σ) (e:builtA c.P h b ts.toList l=some (r,d)) (hf:Fr σ h (d.on h)) (hm:h.mr≤h.nx) :
 Goes c σ h w (builtin b ts ty cs args) r (d.on h):=by
 obtain ⟨ts⟩:=ts
 obtain ⟨args⟩:=args
 dsimp only at ha e
 subst ha
 unfold builtA at e
 split at e
 ·rename_i t tx x y
  exact (apA_ok hs (O.df_one.1 (hl (.o (.v x)) (by simp))) (O.df_one.1 (hl (.o (.v y)) (by simp))) e hf hm).goes
 ·replace e:=keep_some e; obtain ⟨e,rfl⟩:=e
  exact (lenA_ok hs e).goes
 ·replace e:=keep_some e; obtain ⟨e,rfl⟩:=e
  exact (capA_ok hs e).goes
 ·rename_i t tx x y
  exact (cpA_ok hs (O.df_one.1 (hl (.o (.v x)) (by simp))) (O.df_one.1 (hl (.o (.v y)) (by simp))) e).goes
 ·obtain ⟨d,h1,h2⟩:=Option.map_eq_some_iff.1 e
  cases h2
  exact (delA_ok hs h1).goes
 ·obtain ⟨d,h1,h2⟩:=Option.map_eq_some_iff.1 e
  cases h2
  exact (clA_ok hs h1).goes
 ·rename_i k n k' m
  cases e
  refine Goes.stay hs ?_ df_num
  simp only [builtin,Builtin.min_,List.map_cons,List.map_nil,R.val,O.val,V.val,List.foldlM_cons,List.foldlM_nil,Builtin.min2,Sem.run_bind,Sem.run_pure,Result.andThen_ok]
  cases hd:decide (m<n) with
  | true=>rw [if_pos (of_decide_eq_true hd)]
  | false=>rw [if_neg (of_decide_eq_false hd)]
 · cases e
noncomputable def op1 (P:Program) (h:H) (ev:Operand→Option R) (o:Op):Option (R×Dl):=match o with
 | .move x=>keep (ev x)
 | .assign x=>keep (ev x)
 | .pick x a b=>match ev x with
   | some (.o (.v (.b true)))=>keep (ev a)
   | some (.o (.v (.b false)))=>keep (ev b)
   | _=>none
 | .alloc t=>allocA P h t
 | .box t x=>match ev x with
   | some (.o y)=>some (boxA h t y.cells)
   | _=>none
 | .build t ps=>match evp ev ps.toList with
   | some l=>keep (buildA P t l)
   | none=>none
 | .buildSlice t n ps=>match n,ps.toList with
   | 0,[]=>bs0 P h t
   | n,ps=>match evp ev ps with
     | some l=>bsA P h t n l
     | none=>none
 | .load t x=>match ev x with
   | some (.o (.v (.p b o)))=>keep (loadA P h t b o)
   | _=>none
 | .store t x y=>match ev x,ev y with
   | some (.o (.v (.p b o))),some (.o v)=>ofU (storeA P h t b o v)
   | _,_=>none
 | .nilCheck x=>match ev x with
   | some r=>keep (nilA r)
   | none=>none
 | .binOp op t x y _=>match ev x,ev y with
   | some a,some b=>(binA P op t a b).map fun v=>(.o (.v v),.no)
   | _,_=>none
 | .unOp op _ x=>match ev x with
   | some r=>keep (notA op r)
   | none=>none
 | .convert s t x=>match ev x with
   | some r=>convA P h s t r
   | none=>none
 | .sliceToArrayPointer t x=>match ev x with
   | some r=>keep (s2A P t r)
   | none=>none
 | .makeMap _ r=>match r with
   | none=>some (mkA h)
   | _=>none
 | .makeSlice t l k=>match ev l,ev k with
   | some a,some b=>mkS P h t a b
   | _,_=>none
 | .slice t x lo hi mx=>match mx,ev x,evo ev lo,evo ev hi with
   | none,some r,some l,some k=>keep (slA P t r l k)
   | _,_,_,_=>none
 | .fieldAddr t x f=>match ev x with
   | some (.o (.v (.p b o)))=>keep (faA P t f b o)
   | _=>none
 | .field t x f=>match ev x with
   | some r=>keep (fdA P t f r)
   | none=>none
 | .indexAddr t x i=>match ev x,ev i with
   | some a,some b=>keep (ixA P t a b)
   | _,_=>none
 | .index t x i=>match ev x,ev i with
   | some a,some b=>keep (indA P t a b)
   | _,_=>none
 | .lookup t x i ok=>match ev x,ev i with
   | some a,some b=>keep (lkA P h t a b ok)
   | _,_=>none
 | .mapUpdate t m k x=>match ev m,ev k,ev x with
   | some a,some b,some (.o v)=>ofU (upA P h t a b v)
   | _,_,_=>none
 | .extract x i=>match ev x with
   | some r=>keep (exA r i)
   | none=>none
 | .call c=>match c.callee with
   | .builtin b=>match evs ev c.args.toList with
     | some l=>builtA P h b c.argTypes.toList l
     | none=>none
   | _=>none
 | _=>none
set_option maxHeartbeats 2000000 in
theorem op1_ok (hs:Hs c σ h w) {ρ:Operand→Value} {o:Oper} {ev:Operand→Option R} (hρ : ∀ x r,x∈o.op.operands→ev x=some r→ρ x=r.val σ∧r.df σ) {r:R} {d:Dl} (e:op1 c.P h ev o.op=some (r,d)) (hf:Fr σ h (d.on h)) (hm:h.mr≤h.nx) :
 Goes c σ h w (execOp ρ o) r (d.on h):=by
 obtain ⟨dst,op,ty,pos,after,guard⟩:=o
 dsimp only at hρ e
 cases op <;> dsimp only [op1] at e
 case move x =>
  replace e:=keep_some e; obtain ⟨e,rfl⟩:=e
  obtain ⟨k1,k2⟩:=hρ x _ (by simp [Op.operands]) e
  exact Goes.stay hs (by rw [← k1]; rfl) k2
 case assign x =>
  replace e:=keep_some e; obtain ⟨e,rfl⟩:=e
  obtain ⟨k1,k2⟩:=hρ x _ (by simp [Op.operands]) e
  exact Goes.stay hs (by rw [← k1]; rfl) k2
 case pick x a b =>
  split at e
  ·rename_i hx
   replace e:=keep_some e; obtain ⟨e,rfl⟩:=e
   obtain ⟨k1,k2⟩:=hρ x _ (by simp [Op.operands]) hx
   obtain ⟨k3,k4⟩:=hρ a _ (by simp [Op.operands]) e
   exact Goes.stay hs (by simp [execOp,k1,k3,R.val,O.val,V.val,asBool]) k4
  ·rename_i hx
   replace e:=keep_some e; obtain ⟨e,rfl⟩:=e
   obtain ⟨k1,k2⟩:=hρ x _ (by simp [Op.operands]) hx
   obtain ⟨k3,k4⟩:=hρ b _ (by simp [Op.operands]) e
   exact Goes.stay hs (by simp [execOp,k1,k3,R.val,O.val,V.val,asBool]) k4
  · cases e
 case alloc t=>exact (allocA_ok hs e hf hm).goes
 case box t x =>
  split at e
  ·rename_i y hx
   cases e
   obtain ⟨k1,k2⟩:=hρ x _ (by simp [Op.operands]) hx
   have:=boxA_ok (c:=c) (w:=w) (t:=t) (v:=ρ x) hs (r:=_) (d:=_) rfl (by rw [k1]; exact O.cells_val σ y) k2 hf hm
   exact this.goes
  · cases e
 case build t ps =>
  split at e
  ·rename_i l hl
   replace e:=keep_some e; obtain ⟨e,rfl⟩:=e
   obtain ⟨k1,k2⟩:=evp_ok (ρ:=ρ) (fun x r hx=>hρ x r (by simpa [Op.operands] using hx)) hl
   exact (buildA_ok hs k2 (vs:=ps.map fun (i,x)=>(i,ρ x)) (by rw [← k1]; simp) e).goes
  · cases e
 case buildSlice t n ps =>
  split at e
  ·rename_i hps
   have hps:ps = #[]:=by rw [← Array.toArray_toList (xs:=ps),hps]
   subst hps
   obtain ⟨n,v,σ',w',g1,g2⟩:=(bs0_ok hs (t:=t) e hf hm).goes
   exact ⟨n,v,σ',w',by simpa [execOp] using g1,g2⟩
  ·split at e
   ·rename_i l hl
    obtain ⟨k1,k2⟩:=evp_ok (ρ:=ρ) (fun x r hx=>hρ x r (by simpa [Op.operands] using hx)) hl
    exact (bsA_ok hs k2 (vs:=ps.map fun (i,x)=>(i,ρ x)) (by rw [← k1]; simp) e hf hm).goes
   · cases e
 case load t x =>
  split at e
  ·rename_i b o hx
   replace e:=keep_some e; obtain ⟨e,rfl⟩:=e
   obtain ⟨k1,k2⟩:=hρ x _ (by simp [Op.operands]) hx
   obtain ⟨g1,g2⟩:=loadA_ok hs e
   refine (Yields.stay hs (s:=Instr.loadAt t (ρ x)) ?_ g2).goes
   rw [k1]
   exact g1
  · cases e
 case store t x y =>
  split at e
  ·rename_i b o v hx hy
   replace e:=ofU_some e; obtain ⟨e,rfl⟩:=e
   obtain ⟨k1,_⟩:=hρ x _ (by simp [Op.operands]) hx
   obtain ⟨k3,k4⟩:=hρ y _ (by simp [Op.operands]) hy
   obtain ⟨w',g1,g2,g3⟩:=storeA_ok hs k4 e
   have:Turns c σ h w (Instr.storeAt t (ρ x) (ρ y)) (d.on h):=⟨w',by rw [k1,k3]; exact g1,g2,g3⟩
   exact this.goes
  · cases e
 case nilCheck x =>
  split at e
  ·rename_i r' hx
   replace e:=keep_some e; obtain ⟨e,rfl⟩:=e
   obtain ⟨k1,k2⟩:=hρ x _ (by simp [Op.operands]) hx
   unfold nilA at e
   split at e
   ·cases e
    exact Goes.stay hs (by simp [execOp,k1,R.val,O.val,V.val]) k2
   ·cases e
    exact Goes.stay hs (by simp [execOp,k1,R.val,O.val,V.val]) k2
   · cases e
  · cases e
 case binOp op t x y t' =>
  split at e
  ·rename_i a b hx hy
   obtain ⟨v,e1,h2⟩:=Option.map_eq_some_iff.1 e
   cases h2
   obtain ⟨k1,k2⟩:=hρ x _ (by simp [Op.operands]) hx
   obtain ⟨k3,k4⟩:=hρ y _ (by simp [Op.operands]) hy
   have:=(binA_ok hs k2 k4 e1 x y).goes
   rw [← k1,← k3] at this
   exact this
  · cases e
 case unOp op t x =>
  split at e
  ·rename_i r' hx
   replace e:=keep_some e; obtain ⟨e,rfl⟩:=e
   obtain ⟨k1,k2⟩:=hρ x _ (by simp [Op.operands]) hx
   have:=(notA_ok hs e).goes
   rw [← k1] at this
   exact this
  · cases e
 case convert s t x =>
  split at e
  ·rename_i r' hx
   obtain ⟨k1,k2⟩:=hρ x _ (by simp [Op.operands]) hx
   have:=(convA_ok hs k2 e hf hm).goes
   rw [← k1] at this
   exact this
  · cases e
 case sliceToArrayPointer t x =>
  split at e
  ·rename_i r' hx
   replace e:=keep_some e; obtain ⟨e,rfl⟩:=e
   obtain ⟨k1,k2⟩:=hρ x _ (by simp [Op.operands]) hx
   have:=(s2A_ok hs k2 e).goes
   rw [← k1] at this
   exact this
  · cases e
 case makeMap t r' =>
  split at e
  · exact (mkA_ok hs (t:=t) (Option.some.inj e) hf hm).goes
  · cases e
 case makeSlice t l k =>
  split at e
  ·rename_i a b hx hy
   obtain ⟨k1,_⟩:=hρ l _ (by simp [Op.operands]) hx
   obtain ⟨k3,_⟩:=hρ k _ (by simp [Op.operands]) hy
   have:=(mkS_ok hs e hf hm).goes
   rw [← k1,← k3] at this
   exact this
  · cases e
 case slice t x lo hi mx =>
  split at e
  ·rename_i r' l k hx hl hk
   replace e:=keep_some e; obtain ⟨e,rfl⟩:=e
   obtain ⟨k1,k2⟩:=hρ x _ (by simp [Op.operands]) hx
   have e1:=evo_ok (σ:=σ) (ρ:=ρ) (fun y r hy=>hρ y r (by simp [Op.operands]; exact .inr (.inl hy))) hl
   have e2:=evo_ok (σ:=σ) (ρ:=ρ) (fun y r hy=>hρ y r (by simp [Op.operands]; exact .inr (.inr hy))) hk
   have:=(slA_ok hs k2 e).goes
   rw [← k1,← e1,← e2] at this
   exact this
  · cases e
 case fieldAddr t x f =>
  split at e
  ·rename_i b o hx
   replace e:=keep_some e; obtain ⟨e,rfl⟩:=e
   obtain ⟨k1,k2⟩:=hρ x _ (by simp [Op.operands]) hx
   have:=(faA_ok hs (O.df_one.1 k2) e).goes
   show Goes c σ h w (do pure (.value (← Instr.fieldAt t (ρ x) f))) r h
   rw [k1]
   exact this
  · cases e
 case field t x f =>
  split at e
  ·rename_i r' hx
   replace e:=keep_some e; obtain ⟨e,rfl⟩:=e
   obtain ⟨k1,k2⟩:=hρ x _ (by simp [Op.operands]) hx
   have:=(fdA_ok hs k2 e).goes
   rw [← k1] at this
   exact this
  · cases e
 case indexAddr t x i =>
  split at e
  ·rename_i a b hx hy
   replace e:=keep_some e; obtain ⟨e,rfl⟩:=e
   obtain ⟨k1,k2⟩:=hρ x _ (by simp [Op.operands]) hx
   obtain ⟨k3,_⟩:=hρ i _ (by simp [Op.operands]) hy
   have:=(ixA_ok hs (i:=b) k2 e).goes
   rw [← k1,← k3] at this
   exact this
  · cases e
 case index t x i =>
  split at e
  ·rename_i a b hx hy
   replace e:=keep_some e; obtain ⟨e,rfl⟩:=e
   obtain ⟨k1,k2⟩:=hρ x _ (by simp [Op.operands]) hx
   obtain ⟨k3,_⟩:=hρ i _ (by simp [Op.operands]) hy
   have:=(indA_ok hs (i:=b) k2 e).goes
   rw [← k1,← k3] at this
   exact this
  · cases e
 case lookup t x i ok =>
  split at e
  ·rename_i a b hx hy
   replace e:=keep_some e; obtain ⟨e,rfl⟩:=e
   obtain ⟨k1,k2⟩:=hρ x _ (by simp [Op.operands]) hx
   obtain ⟨k3,_⟩:=hρ i _ (by simp [Op.operands]) hy
   have:=(lkA_ok hs e).goes
   rw [← k1,← k3] at this
   exact this
  · cases e
 case mapUpdate t m k x =>
  split at e
  ·rename_i a b v hx hy hz
   replace e:=ofU_some e; obtain ⟨e,rfl⟩:=e
   obtain ⟨k1,_⟩:=hρ m _ (by simp [Op.operands]) hx
   obtain ⟨k3,k4⟩:=hρ k _ (by simp [Op.operands]) hy
   obtain ⟨k5,k6⟩:=hρ x _ (by simp [Op.operands]) hz
   have:=upA_ok hs k4 k6 e
   have k5:ρ x=v.val σ:=k5
   rw [← k1,← k3,← k5] at this
   exact this.goes
  · cases e
 case extract x i =>
  split at e
  ·rename_i r' hx
   replace e:=keep_some e; obtain ⟨e,rfl⟩:=e
   obtain ⟨k1,k2⟩:=hρ x _ (by simp [Op.operands]) hx
   have:=(exA_ok hs k2 e).goes
   rw [← k1] at this
   exact this
  · cases e
 case call cl =>
  split at e
  ·rename_i b hcl
   split at e
   ·rename_i l hl
    obtain ⟨k1,k2⟩:=evs_ok (σ:=σ) (ρ:=ρ) (fun x r hx=>hρ x r (by simp [Op.operands,Call.operands,hcl]; simpa using hx)) hl
    obtain ⟨cs,hx⟩ : ∃ cs,(execOp ρ {dst:=dst,op := .call cl,type:=ty,pos:=pos,after:=after,guard:=guard}).run c.P w=(builtin b cl.argTypes ty cs (cl.args.map ρ)).run c.P w:=by
     simp only [execOp,resolve,hcl,Sem.run_bind,Sem.run_pure,Result.andThen_ok,invoke]
     exact ⟨_,rfl⟩
    obtain ⟨n,v,σ',w',g1,g2⟩:=builtA_ok (ty:=ty) (cs:=cs) hs (args:=cl.args.map ρ) (by simpa using k1) k2 e hf hm
    exact ⟨n,v,σ',w',hx.trans g1,g2⟩
   · cases e
  · cases e
 all_goals cases e
end Rn
end Go.Proofs.YtfodadedkilgdaaGreatDoor

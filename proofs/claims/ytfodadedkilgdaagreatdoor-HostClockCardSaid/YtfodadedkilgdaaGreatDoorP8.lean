/- A part of the proof. Plain; no condition. -/
import Derived.Test.YtfodadedkilgdaaGreatDoorP7
import Derived.Laws.MakeOwn
namespace Go.Proofs.YtfodadedkilgdaaGreatDoor
set_option linter.unusedVariables false
set_option linter.unusedSimpArgs false
open Go.RowKit Mem
namespace Rn
variable {c:Cx} {σ σ':Sg} {h h1 h':H} {w w':World}
def Goes (c:Cx) (σ:Sg) (h:H) (w:World) (s:Sem Next) (r:R) (h':H):Prop :=
 ∃ n v σ' w',s.run c.P w = .ok n w'∧(n = .value v∨(n = .skip∧v=undef))∧Hs c σ' h' w'∧St σ σ' h h' w w'∧v=r.val σ'∧r.df σ'
theorem Yields.goes {s:Sem Value} {r:R} (y:Yields c σ h w s r h'):Goes c σ h w (do pure (.value (← s))) r h':=by
 obtain ⟨v,σ',w',e,k⟩:=y
 exact ⟨.value v,v,σ',w',by simp [e],.inl rfl,k⟩
theorem Goes.stay (hs:Hs c σ h w) {s:Sem Next} {r:R} (e:s.run c.P w = .ok (.value (r.val σ)) w) (hd:r.df σ):Goes c σ h w s r h :=
 ⟨_,_,σ,w,e,.inl rfl,hs,St.refl hs,rfl,hd⟩
def Turns (c:Cx) (σ:Sg) (h:H) (w:World) (s:Sem Unit) (h':H):Prop := ∃ w',s.run c.P w = .ok () w'∧Hs c σ h' w'∧St σ σ h h' w w'
theorem Turns.goes {s:Sem Unit} (t:Turns c σ h w s h'):Goes c σ h w (do s; pure .skip) .u h':=by
 obtain ⟨w',e,h1,h2⟩:=t
 exact ⟨.skip,undef,σ,w',by simp [e],.inr ⟨rfl,rfl⟩,h1,h2,rfl,trivial⟩
def nilA (r:R):Option R:=match r with
 | .o (.v (.p _ _))=>some r
 | .o (.v (.f _))=>some r
 | _=>none
def notA (op:UnOp) (r:R):Option R:=match op,r with
 | .not,.o (.v (.b x))=>some (.o (.v (.b !x)))
 | _,_=>none
theorem df_b {x:Bool}:(R.o (.v (.b x))).df σ:=O.df_one.2 trivial
theorem notA_ok (hs:Hs c σ h w) {op:UnOp} {r r':R} (e:notA op r=some r'):Yields c σ h w (Op.unary op (r.val σ)) r' h:=by
 unfold notA at e
 split at e
 ·cases e
  exact Yields.stay hs (by simp [Op.unary,R.val,O.val,V.val]) df_b
 · cases e
def eqV:V→V→Option Bool
 | .np,.np=>some true
 | .np,.p _ _=>some false
 | .p _ _,.np=>some false
 | .ns,.ns=>some true
 | .ns,.s _ _ _ _=>some false
 | .s _ _ _ _,.ns=>some false
 | .ns,.se _ _ _ _ _=>some false
 | .se _ _ _ _ _,.ns=>some false
 | .nm,.nm=>some true
 | .nm,.m _=>some false
 | .m _,.nm=>some false
 | .nf,.nf=>some true
 | .nf,.f _=>some false
 | .f _,.nf=>some false
 | _,_=>none
def fits:TypeDesc→V→Bool
 | .pointer _,.np=>true
 | .pointer _,.p _ _=>true
 | .slice _,.ns=>true
 | .slice _,.s _ _ _ _=>true
 | .slice _,.se _ _ _ _ _=>true
 | .map _ _,.nm=>true
 | .map _ _,.m _=>true
 | .func _ _ _,.nf=>true
 | .func _ _ _,.f _=>true
 | _,_=>false
def txtB (op:BinOp) (l m:List Y):Option V:=match op with
 | .add=>match Nat.ble (l.length+m.length) 1000000 with
   | true=>some (.t (l++m))
   | false=>none
 | .eql=>(eqY l m).map .b
 | .neq=>(eqY l m).map fun x => .b !x
 | _=>none
noncomputable def binA (P:Program) (op:BinOp) (t:TypeId) (x y:R):Option V:=match x,y with
 | .o (.v (.i k n)),.o (.v (.i k' m))=>match op with
   | .shl=>shB op k n m
   | .shr=>shB op k n m
   | op=>match decide (k=k') with
     | true=>numB op k n m
     | false=>none
 | .o (.v (.t l)),.o (.v (.t m))=>txtB op l m
 | .o (.v (.b a)),.o (.v (.b b))=>match op,P.underlying t with
   | .eql,some .bool=>some (.b (a==b))
   | .neq,some .bool=>some (.b !(a==b))
   | _,_=>none
 | .o (.v a),.o (.v b)=>match P.underlying t with
   | some d=>match fits d a,fits d b,op with
     | true,true,.eql=>(eqV a b).map .b
     | true,true,.neq=>(eqV a b).map fun x => .b !x
     | _,_,_=>none
   | none=>none
 | _,_=>none
theorem eqV_ok {P:Program} {w:World} {σ:Sg} {t:TypeId} {d:TypeDesc} {a b:V} {z:Bool} (hu:P.underlying t=some d) (ha:fits d a=true) (hb:fits d b=true) (e:eqV a b=some z):(Op.equal t (a.val σ) (b.val σ)).run P w = .ok z w:=by
 have key : ∀ n,(Op.equalIn (n+1) t (a.val σ) (b.val σ)).run P w = .ok z w:=fun n=>by
  unfold eqV at e
  split at e <;> first
   | (cases e; cases d <;> first | (simp [fits] at ha; done) | simp [Op.equalIn,run_underlying hu,V.val]; done)
   | cases e
 exact key 9999
theorem eqB_ok {P:Program} {w:World} {t:TypeId} {a b:Bool} (hu:P.underlying t=some .bool):(Op.equal t (.bool a) (.bool b)).run P w = .ok (a==b) w:=by
 have key : ∀ n,(Op.equalIn (n+1) t (.bool a) (.bool b)).run P w = .ok (a==b) w:=fun n=>by simp [Op.equalIn,run_underlying hu]
 exact key 9999
theorem eqV_bin {a b:V} {z:Bool} (e:eqV a b=some z) (P:Program) (σ:Sg) (w:World) (t:TypeId) (ox oy:Operand) {op:BinOp} (hop:op = .eql∨op = .neq):((do eqGuard op t ox oy (a.val σ) (b.val σ); binOp op t (a.val σ) (b.val σ):Sem Value)).run P w=((do let x ← Op.equal t (a.val σ) (b.val σ); pure (.bool (if op = .eql then x else !x)):Sem Value)).run P w:=by
 unfold eqV at e
 rcases hop with rfl | rfl <;> split at e <;> first
  | (cases e; done)
  | simp [eqGuard,binOp,V.val]
theorem txt_run {P:Program} {w:World} {op:BinOp} {x y:ByteArray} (t:TypeId) (ox oy:Operand) (hop:op = .add∨op = .eql∨op = .neq):((do eqGuard op t ox oy (.string x) (.string y); binOp op t (.string x) (.string y):Sem Value)).run P w=(Op.stringOp op x y).run P w:=by
 rcases hop with rfl | rfl | rfl <;> simp [eqGuard,binOp]
theorem txtB_ok {op:BinOp} {l m:List Y} {v:V} (e:txtB op l m=some v) (hl : ∀ y∈l,y.df σ) (hm : ∀ y∈m,y.df σ) (P:Program) (w:World) (t:TypeId) (ox oy:Operand) :
 ((do eqGuard op t ox oy ((V.t l).val σ) ((V.t m).val σ); binOp op t ((V.t l).val σ) ((V.t m).val σ):Sem Value)).run P w = .ok (v.val σ) w∧v.df σ:=by
 unfold txtB at e
 split at e
 ·split at e
  ·rename_i hle
   cases e
   have hle:=Nat.le_of_ble_eq_true hle
   refine ⟨?_,fun y hy=>(List.mem_append.1 hy).elim (hl y) (hm y)⟩
   simp only [V.val]
   rw [txt_run t ox oy (.inl rfl)]
   have e1:ByteArray.size ⟨(l.map (Y.u σ)).toArray⟩=l.length:=by show (l.map (Y.u σ)).toArray.size=_; simp
   have e2:ByteArray.size ⟨(m.map (Y.u σ)).toArray⟩=m.length:=by show (m.map (Y.u σ)).toArray.size=_; simp
   have hn : ¬ (((l.length+m.length:Nat):Int)>IntKind.i64.max):=by
    have:IntKind.i64.max=9223372036854775807:=rfl
    rw [this]; omega
   simp only [Op.stringOp,e1,e2,if_neg hn,Sem.run_pure]
   congr 1
   congr 1
   apply ByteArray.ext
   simp
  · cases e
 ·obtain ⟨z,hz,rfl⟩:=Option.map_eq_some_iff.1 e
  refine ⟨?_,trivial⟩
  simp only [V.val]
  rw [txt_run t ox oy (.inr (.inl rfl))]
  have:=str_eq hz σ
  rw [beq_toListBytes] at this
  simp only [Op.stringOp,this,Sem.run_pure]
 ·obtain ⟨z,hz,rfl⟩:=Option.map_eq_some_iff.1 e
  refine ⟨?_,trivial⟩
  simp only [V.val]
  rw [txt_run t ox oy (.inr (.inr rfl))]
  have:=str_eq hz σ
  rw [beq_toListBytes] at this
  simp only [Op.stringOp,this,Sem.run_pure]
 · cases e
theorem binA_ok (hs:Hs c σ h w) {op:BinOp} {t:TypeId} {x y:R} {v:V} (hx:x.df σ) (hy:y.df σ) (e:binA c.P op t x y=some v) (ox oy:Operand):Yields c σ h w (do eqGuard op t ox oy (x.val σ) (y.val σ); binOp op t (x.val σ) (y.val σ)) (.o (.v v)) h:=by
 unfold binA at e
 split at e
 ·rename_i k n k' m
  split at e
  ·obtain ⟨k1,k2⟩:=shB_ok (k':=k') e c.P w σ t ox oy
   exact Yields.stay hs k1 (O.df_one.2 k2)
  ·obtain ⟨k1,k2⟩:=shB_ok (k':=k') e c.P w σ t ox oy
   exact Yields.stay hs k1 (O.df_one.2 k2)
  ·split at e
   ·rename_i hk
    have hk:=of_decide_eq_true hk
    subst hk
    obtain ⟨k1,k2⟩:=numB_ok e c.P w σ t ox oy
    exact Yields.stay hs k1 (O.df_one.2 k2)
   · cases e
 ·obtain ⟨k1,k2⟩:=txtB_ok e (O.df_one.1 hx) (O.df_one.1 hy) c.P w t ox oy
  exact Yields.stay hs k1 (O.df_one.2 k2)
 ·split at e
  ·rename_i hu
   cases e
   exact Yields.stay hs (by simp [eqGuard,binOp,R.val,O.val,V.val,eqB_ok hu]) df_b
  ·rename_i hu
   cases e
   exact Yields.stay hs (by simp [eqGuard,binOp,R.val,O.val,V.val,eqB_ok hu]) df_b
  · cases e
 ·rename_i a b _ _ _
  split at e
  ·rename_i d hu
   split at e
   ·rename_i h1 h2
    obtain ⟨z,hz,rfl⟩:=Option.map_eq_some_iff.1 e
    refine Yields.stay hs ?_ df_b
    have:=eqV_bin hz c.P σ w t ox oy (op := .eql) (.inl rfl)
    refine this.trans ?_
    rw [Sem.run_bind,eqV_ok (P:=c.P) (w:=w) (σ:=σ) hu h1 h2 hz]
    rfl
   ·rename_i h1 h2
    obtain ⟨z,hz,rfl⟩:=Option.map_eq_some_iff.1 e
    refine Yields.stay hs ?_ df_b
    have:=eqV_bin hz c.P σ w t ox oy (op := .neq) (.inr rfl)
    refine this.trans ?_
    rw [Sem.run_bind,eqV_ok (P:=c.P) (w:=w) (σ:=σ) hu h1 h2 hz]
    rfl
   · cases e
  · cases e
 · cases e
def txtC:List V→Option (List Y)
 | []=>some []
 | x::r=>match x,txtC r with
   | .i .u8 n,some l=>some (.k n.toNat::l)
   | .x o j,some l=>some (.x o j::l)
   | _,_=>none
def cellY:Y→V
 | .k n => .i .u8 (n%256:Nat)
 | .x o j => .x o j
theorem cellY_ok {y:Y} (hd:y.df σ):(cellY y).val σ = .int .u8 (y.u σ).toNat∧(cellY y).df σ:=by
 cases y with
 | k n=>exact ⟨by simp [cellY,V.val,Y.u],trivial⟩
 | x o j=>exact ⟨rfl,hd⟩
theorem txtC_ok : ∀ {l:List V} {t:List Y},txtC l=some t→dfs σ l→t.length=l.length∧(∀ y∈t,y.df σ) ∧ ∃ ns:List Int,vals σ l=ns.map (Value.int .u8)∧ns.map (fun n=>UInt8.ofNat n.toNat)=t.map (Y.u σ)
 | [],t,e,_=>by cases e; exact ⟨rfl,(fun _ h=>nomatch h),[],rfl,rfl⟩
 | x::r,t,e,hd=>by
   unfold txtC at e
   split at e
   ·rename_i n l h1
    cases e
    obtain ⟨k1,k2,ns,k3,k4⟩:=txtC_ok h1 (fun y hy=>hd y (List.mem_cons_of_mem _ hy))
    refine ⟨by simp [k1],fun y hy => ?_,n::ns,by rw [vals,List.map_cons]; simp only [List.map_cons]; rw [← k3]; rfl,by simp only [List.map_cons,k4,Y.u]⟩
    rcases List.mem_cons.1 hy with rfl | hy
    · trivial
    · exact k2 y hy
   ·rename_i o j l h1
    cases e
    obtain ⟨k1,k2,ns,k3,k4⟩:=txtC_ok h1 (fun y hy=>hd y (List.mem_cons_of_mem _ hy))
    have hx : ∃ l,σ.ρ o=some l:=hd (.x o j) (List.mem_cons_self ..)
    refine ⟨by simp [k1],fun y hy => ?_,(((σ.by o).getD j 0).toNat:Int)::ns,by rw [vals,List.map_cons]; simp only [List.map_cons]; rw [← k3]; rfl,by simp only [List.map_cons,k4,Y.u]; congr 1; simp⟩
    rcases List.mem_cons.1 hy with rfl | hy
    · exact hx
    · exact k2 y hy
   · cases e
noncomputable def convA (P:Program) (h:H) (s t:TypeId) (r:R):Option (R×Dl):=match P.underlying s,P.underlying t,r with
 | some _,some (.int k),.o (.v (.i _ n))=>some (.o (.v (.i k (k.wrap n))),.no)
 | some .string,some .string,.o (.v (.t l))=>some (r,.no)
 | some .string,some (.slice e),.o (.v (.t l))=>match P.underlying e,Nat.ble l.length 1000000 with
   | some (.int .u8),true=>some (.o (.v (.s h.nx 0 l.length (.g 0))),.new (.l (l.map cellY) e (some 1)))
   | _,_=>none
 | some (.slice e),some .string,.o (.v (.s b o n _))=>match P.underlying e,h.at b with
   | some (.int .u8),some (.l l _ _)=>match Nat.ble (o+n) l.length with
     | true=>(txtC (seg l o n)).map fun t=>(.o (.v (.t t)),.no)
     | false=>none
   | _,_=>none
 | some (.slice e),some .string,.o (.v .ns)=>match P.underlying e with
   | some (.int .u8)=>some (.o (.v (.t [])),.no)
   | _=>none
 | some (.slice e),some (.slice _),.o (.v (.s b o n q))=>match P.underlying e,h.at b,Nat.beq s t with
   | some (.int .u8),some (.l l t' none),true=>some (.o (.v (.s b o n q)),.put b (.l l t' none))
   | _,_,_=>none
 | _,_,_=>none
theorem fold_push : ∀ (ns:List Int) (acc:ByteArray),ns.foldl (fun r n=>r.push (UInt8.ofNat n.toNat)) acc=⟨acc.data++(ns.map fun n=>UInt8.ofNat n.toNat).toArray⟩
 | [],acc=>by simp
 | n::ns,acc=>by
   rw [List.foldl_cons,fold_push ns]
   simp [ByteArray.push]
theorem conv_run {P:Program} {w:World} {ts t e:TypeId} {s:ByteArray} (hts:P.underlying ts=some .string) (ht:P.underlying t=some (.slice e)) (he:P.underlying e=some (.int .u8)) (hm:s.size≤maxLen) :
 ∃ (cap:Nat) (cur:Array Value),(convert ts t (.string s)).run P w = .ok (.slice (some ⟨w.heap.size,0,none⟩) s.size cap) (w.drew.alloc (.cells cur e (cur.size,cur.size+1)))∧cur.size=cap∧s.size≤cap∧cap≤maxLen∧cur.toList.take s.size=bys s.data.toList:=by
 have hge:=grownCap_ge w s.size 0 e
 have hle:=grownCap_le_maxLen w s.size 0 e hm
 obtain ⟨cur,hcur⟩ : ∃ cur:Array Value,cur=(s.data.map fun b=>Value.int .u8 (b.toNat:Int))++Array.replicate (grownCap w s.size 0 e-s.size) (.int .u8 0):=⟨_,rfl⟩
 have hsz:cur.size=grownCap w s.size 0 e:=by
  rw [hcur]; simp only [Array.size_append,Array.size_map,Array.size_replicate]
  have:s.data.size=s.size:=rfl
  omega
 refine ⟨_,cur,?_,hsz,hge,hle,?_⟩
 ·have hfr:=freeze_alloc w.drew cur e
  have hq:(Question.appendCap s.size 0 e).cut (w.tape w.drawn (Question.appendCap s.size 0 e))=grownCap w s.size 0 e:=rfl
  have hshape:(w.drew.alloc (.cells cur e)).shape? w.heap.size=some (e,cur.size):=by
   have hh:(w.drew.alloc (.cells cur e)).heap[w.heap.size]? = some (.cells cur e (0,0)):=Rg.heap_alloc_at w.drew _ _ rfl
   unfold World.shape?; rw [hh]
  have hc':=hcur.symm
  have hfr':(w.drew.alloc (.cells cur e)).freeze {block:=w.heap.size,off:=cur.size} 1=w.drew.alloc (.cells cur e (cur.size,cur.size+1)):=hfr
  simp [convert,run_underlying hts,run_underlying ht,run_underlying he,Conv.stringToBytes,Question.forced,newRow,markStringish,hq,hc',hshape,hfr']
 ·rw [hcur]
  have hl:(bys s.data.toList).length=s.size:=by rw [bys_length]; rfl
  rw [← hl]
  simp only [Array.toList_append,Array.toList_map]
  exact List.take_left
theorem mark_run {P:Program} {w:World} {t e t':TypeId} {b o n q:Nat} {C:Array Value} {f:Nat×Nat} (ht:P.underlying t=some (.slice e)) (he:P.underlying e=some (.int .u8)) (hb:w.heap[b]? = some (.cells C t' f)) (hf:Fq f C.size) :
 ∃ f' w',(convert t t (.slice (some ⟨b,o,none⟩) n q)).run P w = .ok (.slice (some ⟨b,o,none⟩) n q) w'∧w'.heap[b]? = some (.cells C t' f')∧Fq f' C.size∧Kp (fun k=>k=b) w w':=by
 have hshape:w.shape? b=some (t',C.size):=by unfold World.shape?; rw [hb]
 refine ⟨if f.1=f.2 then (C.size,C.size+1) else (min f.1 C.size,max f.2 (C.size+1)),w.freeze {block:=b,off:=C.size} 1,by simp [convert,run_underlying ht,run_underlying he,markStringish,hshape],?_,?_,rfl,rfl,rfl,by simp [World.freeze],fun k hk hn => ?_⟩
 ·obtain ⟨lo,hi⟩:=f
  simp only [World.freeze,Nat.one_ne_zero,if_false,Array.getElem?_modify,if_pos,hb,Option.map_some]
  by_cases h:lo=hi <;> simp [h]
 ·by_cases h:f.1=f.2
  · rw [if_pos h]; exact .inr (Nat.le_refl _)
  ·rw [if_neg h]
   rcases hf with h' | h'
   · exact absurd h' h
   · exact .inr (Nat.le_min.2 ⟨h',Nat.le_refl _⟩)
 ·have hn : ¬ k=b:=hn
  simp only [World.freeze,Nat.one_ne_zero,if_false,Array.getElem?_modify]
  rw [if_neg (Ne.symm hn)]
theorem convA_ok (hs:Hs c σ h w) {s t:TypeId} {r r':R} {d:Dl} (hr:r.df σ) (e:convA c.P h s t r=some (r',d)) (hf:Fr σ h (d.on h)) (hm:h.mr≤h.nx):Yields c σ h w (convert s t (r.val σ)) r' (d.on h):=by
 unfold convA at e
 split at e
 ·rename_i ds k k' n hu1 hu2
  cases e
  exact Yields.stay hs (by simp [convert,run_underlying hu1,run_underlying hu2,Conv.intToInt,R.val,O.val,V.val]) df_num
 ·rename_i l hu1 hu2
  cases e
  exact Yields.stay hs (by simp [convert,run_underlying hu1,run_underlying hu2,R.val,O.val,V.val]) hr
 ·rename_i el l hu1 hu2
  split at e
  ·rename_i he hle
   cases e
   have hle:=Nat.le_of_ble_eq_true hle
   have hl : ∀ y∈l,y.df σ:=O.df_one.1 hr
   obtain ⟨cap,cur,k1,k2,k3,k4,k5⟩:=conv_run (P:=c.P) (w:=w) (s:=⟨(l.map (Y.u σ)).toArray⟩) hu1 hu2 he (by
    show (l.map (Y.u σ)).toArray.size≤maxLen
    simp [maxLen]; omega)
   have esz:ByteArray.size ⟨(l.map (Y.u σ)).toArray⟩=l.length:=by show (l.map (Y.u σ)).toArray.size=_; simp
   rw [esz] at k1 k3 k5
   have hn:σ.β h.nx=none:=hf.1 h.nx (Nat.le_refl _) (Nat.lt_succ_self _)
   have hle':Le σ (σ.name h.nx w.heap.size cap):=Sg.name_le hn
   have hdl:dfs σ (l.map cellY):=fun x hx=>by
    obtain ⟨y,hy,rfl⟩:=List.mem_map.1 hx
    exact (cellY_ok (hl y hy)).2
   obtain ⟨j1,j2⟩:=hs.adopt hn hm (x := .l (l.map cellY) el (some 1)) (a:=w.heap.size) (g:=cap) (w':=w.drew.alloc (.cells cur el (cur.size,cur.size+1))) (Below.drew ((Below.refl _ _).alloc (Nat.le_refl _) _)) (Nat.le_refl _)
    ⟨cur,(cur.size,cur.size+1),by rw [Sg.name_bl.1]; exact heap_alloc_new w.drew _,fun j hj=>by simp; omega,by rw [Sg.name_bl.2.1,Nat.mul_one]; exact k2,by
     rw [List.length_map,k5,(vals_mono hle' hdl).1]
     simp only [vals,bys,List.map_map]
     refine List.map_congr_left fun y hy => ?_
     exact (cellY_ok (hl y hy)).1.symm,by rw [Sg.name_bl.2.1]; exact k4⟩ hdl
   refine ⟨_,_,_,k1,j1,j2,?_,(O.df_one (x := .s h.nx 0 l.length (.g 0))).2 ⟨⟨_,Sg.name_bl.2.2⟩,by simp only [capOf,Sg.name_bl.2.1]; omega⟩⟩
   simp only [R.val,O.val,V.val,capOf,Sg.name_bl.1,Sg.name_bl.2.1,Nat.sub_zero]
  · cases e
 ·rename_i el b o n cp hu1 hu2
  split at e
  ·rename_i l t' e' he hb
   split at e
   ·rename_i hle
    obtain ⟨t,ht,e⟩:=Option.map_eq_some_iff.1 e
    cases e
    have hle:=Nat.le_of_ble_eq_true hle
    obtain ⟨b1,b2,_⟩:=hs.blk b _ hb
    obtain ⟨C,f,hrw,htk,hln,_⟩:=B.row b1 (.inr (by rw [vals_length]; exact Nat.le_refl _))
    obtain ⟨t1,t2,ns,t3,t4⟩:=txtC_ok (σ:=σ) ht (seg_df b2 o n)
    have hsl:(seg l o n).length=n:=by unfold seg; rw [List.length_take,List.length_drop]; omega
    have hld:(loadCells ⟨σ.bl b,o,none⟩ n).run c.P w = .ok (ns.map (Value.int .u8)).toArray w:=by
     have:=run_loadCells_list (P:=c.P) w ⟨σ.bl b,o,none⟩ (vals σ (seg l o n)) (fun j u hj=>by
      have hj':j<n:=by have:=(List.getElem?_eq_some_iff.1 hj).1; rw [vals_length,hsl] at this; exact this
      rw [al_add,cell_of_row w _ _ _ _ _ hrw]
      have h2:C[o+j]? = (vals σ l)[o+j]? := by rw [← htk,List.getElem?_take,if_pos (by omega)]; simp
      rw [h2,← hj]
      simp only [vals,seg,List.getElem?_map,List.getElem?_take,List.getElem?_drop,if_pos hj'])
     rw [vals_length,hsl,t3] at this
     exact this
    have hb2:=run_bytesToString (P:=c.P) w ⟨σ.bl b,o,none⟩ n (capOf σ b cp) ns hld
    rw [fold_push,t4] at hb2
    refine Yields.stay hs ?_ (O.df_one.2 t2)
    simp [convert,run_underlying hu1,run_underlying hu2,run_underlying he,R.val,O.val,V.val,hb2]
   · cases e
  · cases e
 ·rename_i el hu1 hu2
  split at e
  ·rename_i he
   cases e
   refine Yields.stay hs ?_ ((O.df_one (x := .t [])).2 (fun _ h=>nomatch h))
   simp [convert,run_underlying hu1,run_underlying hu2,run_underlying he,R.val,O.val,V.val,Conv.bytesToString]
   rfl
  · cases e
 ·rename_i el el' b o n q hu1 hu2
  split at e
  ·rename_i l t' he hb hst
   cases e
   have hst:=Nat.eq_of_beq_eq_true hst
   subst hst
   obtain ⟨b1,b2,_⟩:=hs.blk b _ hb
   obtain ⟨f,g1,g2⟩:=b1
   obtain ⟨f',w',k1,k2,k3,k4⟩:=mark_run (P:=c.P) (o:=o) (n:=n) (q:=capOf σ b q) hu1 he g1 (by simpa [vals_length] using g2)
   obtain ⟨j1,j2⟩:=hs.put hb (x:=some (.l l t' none)) k4 (fun z hz=>by
    cases hz
    exact ⟨⟨f',k2,by simpa [vals_length] using k3⟩,b2⟩)
   exact ⟨_,σ,w',k1,j1,j2,rfl,hr⟩
  · cases e
 · cases e
noncomputable def indA (P:Program) (t:TypeId) (x i:R):Option R:=match P.underlying t,numR i,x with
 | some (.array n e),some j,.o (.a l)=>match P.underlying e,sizeA P e,Nat.blt j n with
   | some d,some s,true=>match d.isRow with
     | true=>match Nat.ble (j*s+s) l.length with
       | true=>some (.o (.a (seg l (j*s) s)))
       | false=>none
     | false=>(l[j*s]?).map fun x => .o (.v x)
   | _,_,_=>none
 | some .string,some j,.o (.v (.t l))=>(l[j]?).map fun y => .o (.v (cellY y))
 | _,_,_=>none
theorem indA_ok (hs:Hs c σ h w) {t:TypeId} {x i r:R} (hx:x.df σ) (e:indA c.P t x i=some r):Yields c σ h w (Instr.index t (x.val σ) (i.val σ)) r h:=by
 unfold indA at e
 split at e
 ·rename_i n el j l hu hj
  obtain ⟨k,hk⟩:=numR_ok hj σ
  have hl:dfs σ l:=hx
  split at e
  ·rename_i d s hd hsz hlt
   have hlt:=blt_ok hlt
   obtain ⟨it,hit,rfl⟩:=sizeA_ok hsz
   split at e
   ·rename_i hrow
    split at e
    ·rename_i hle
     cases e
     have hle:=Nat.le_of_ble_eq_true hle
     refine Yields.stay hs ?_ (seg_df hl _ _)
     have hz:((vals σ l).toArray.extract (j*it.size) (j*it.size+it.size))=(vals σ (seg l (j*it.size) it.size)).toArray:=by
      apply Array.ext'
      simp [vals,seg,List.map_drop,List.map_take,List.extract_eq_take_drop]
     rw [hk]
     cases d <;> first | (simp at hrow; done) | (simp [Instr.index,asIntOf,run_underlying hu,hlt,R.val,O.val,part,isAgg,run_underlying hd,sizeOf,run_typeInfo w hit]; simp [vals,seg,List.map_drop,List.map_take])
    · cases e
   ·rename_i hrow
    obtain ⟨x,hx',rfl⟩:=Option.map_eq_some_iff.1 e
    refine Yields.stay hs ?_ (O.df_one.2 (hl x (List.mem_of_getElem? hx')))
    have hc:(vals σ l)[j*it.size]? = some (x.val σ):=by simp [vals,hx']
    rw [hk]
    cases d <;> first | (simp at hrow; done) | simp [Instr.index,asIntOf,run_underlying hu,hlt,R.val,O.val,part,isAgg,run_underlying hd,sizeOf,run_typeInfo w hit,hc]
  · cases e
 ·rename_i j l hu hj
  obtain ⟨k,hk⟩:=numR_ok hj σ
  obtain ⟨y,hy,rfl⟩:=Option.map_eq_some_iff.1 e
  have hl : ∀ y∈l,y.df σ:=O.df_one.1 hx
  obtain ⟨c1,c2⟩:=cellY_ok (hl y (List.mem_of_getElem? hy))
  refine Yields.stay hs ?_ (O.df_one.2 c2)
  have hlt:=(List.getElem?_eq_some_iff.1 hy).1
  have hb:(⟨(l.map (Y.u σ)).toArray⟩:ByteArray)[j]? = some (y.u σ):=by
   have h1:(l.map (Y.u σ))[j]? = some (y.u σ):=by rw [List.getElem?_map,hy]; rfl
   have hsz:j<ByteArray.size ⟨(l.map (Y.u σ)).toArray⟩:=by show j<(l.map (Y.u σ)).toArray.size; simpa using hlt
   rw [getElem?_pos (⟨(l.map (Y.u σ)).toArray⟩:ByteArray) j hsz]
   congr 1
   have h2:=(List.getElem?_eq_some_iff.1 h1).2
   rw [← h2]
   show (l.map (Y.u σ)).toArray[j]=_
   simp
  show (Instr.index t ((V.t l).val σ) (i.val σ)).run c.P w = .ok ((cellY y).val σ) w
  rw [hk,c1]
  simp [Instr.index,asIntOf,run_underlying hu,V.val,hb]
 · cases e
end Rn
end Go.Proofs.YtfodadedkilgdaaGreatDoor
namespace Go.Proofs.YtfodadedkilgdaaGreatDoor
set_option linter.unusedVariables false
set_option linter.unusedSimpArgs false
open Go.RowKit Mem
namespace Rn
variable {c:Cx} {σ σ':Sg} {h h1 h':H} {w w':World}
theorem bys_cellY {l:List Y} (hl : ∀ y∈l,y.df σ):bys (l.map (Y.u σ))=vals σ (l.map cellY)∧dfs σ (l.map cellY):=by
 refine ⟨?_,fun x hx => ?_⟩
 ·simp only [vals,bys,List.map_map]
  exact List.map_congr_left fun y hy=>(cellY_ok (hl y hy)).1.symm
 ·obtain ⟨y,hy,rfl⟩:=List.mem_map.1 hx
  exact (cellY_ok (hl y hy)).2
noncomputable def srcT (P:Program) (h:H) (tx:TypeId) (s:Nat) (y:V):Option (Nat×List V):=match P.underlying tx with
 | some (.slice _)=>srcA h s y
 | some .string=>match y with
   | .t l=>match Nat.beq s 1 with
     | true=>some (l.length,l.map cellY)
     | false=>none
   | _=>none
 | _=>none
theorem srcT_ok (hs:Hs c σ h w) {s m tx:Nat} {x:V} {ys:List V} (hx:x.df σ) (he:srcT c.P h tx s x=some (m,ys)):Src c.P s tx (x.val σ) m (vals σ ys) w∧dfs σ ys:=by
 unfold srcT at he
 split at he
 ·rename_i e' hu
  exact srcA_ok hs hu hx he
 ·rename_i hu
  split at he
  ·rename_i l
   split at he
   ·rename_i h1
    cases he
    have h1:=Nat.eq_of_beq_eq_true h1
    subst h1
    obtain ⟨k1,k2⟩:=bys_cellY (σ:=σ) (l:=l) hx
    refine ⟨?_,k2⟩
    have hsz:ByteArray.size ⟨(l.map (Y.u σ)).toArray⟩=l.length:=by show (l.map (Y.u σ)).toArray.size=_; simp
    have:=Src.ofString (w:=w) hu ⟨(l.map (Y.u σ)).toArray⟩
    rw [hsz] at this
    rw [← k1]
    exact this
   · cases he
  · cases he
 · cases he
theorem app_none {P:Program} {w:World} {t tx ty e s:TypeId} {i:TypeInfo} (ht:P.underlying t=some (.slice e)) (hi:P.info? e=some i) (hs:i.size=s) {b:Option Addr} {n cap:Nat} (hn:n≤cap) (hz:b=none→n=0) {x:Value} (hx:Src P s tx x 0 [] w) :
 (Builtin.append_ #[t,tx] ty #[.slice b n cap,x]).run P w = .ok (.slice b n cap) w:=by
 subst hs
 have hc:=hx.cells
 have hl:=hx.len
 rcases hx.kind with ⟨e',hk⟩ | hk <;> cases b <;> simp [Builtin.append_,run_underlying ht,run_underlying hk,sizeOf,typeInfo,hi,hl,hc,hn,storeCells]
noncomputable def apA (P:Program) (h:H) (t tx:TypeId) (x y:V):Option (R×Dl):=match P.underlying t with
 | some (.slice e)=>match P.info? e with
   | some i=>match srcT P h tx i.size y with
     | some (m,ys)=>match Nat.beq m 0 with
       | true=>match x with
         | .ns=>some (.o (.v .ns),.no)
         | .s _ _ _ _=>some (.o (.v x),.no)
         | _=>none
       | false=>match i.zero,dstA h e i.size x with
         | some z,some (n,xs,k)=>match Nat.beq z.cells.size i.size,Nat.ble (n+m) 1000000,Nat.ble ((n+m)*i.bytes) 1000000000 with
           | true,true,true=>some (.o (.v (.s h.nx 0 (n+m) (.g 0))),.app k (.l (xs++ys) e (some i.size)))
           | _,_,_=>none
         | _,_=>none
     | none=>none
   | none=>none
 | _=>none
theorem apA_ok (hs:Hs c σ h w) {t tx ty:TypeId} {x y:V} {r:R} {d:Dl} (hx:x.df σ) (hy:y.df σ) (e:apA c.P h t tx x y=some (r,d)) (hf:Fr σ h (d.on h)) (hm:h.mr≤h.nx):Yields c σ h w (Builtin.append_ #[t,tx] ty #[x.val σ,y.val σ]) r (d.on h):=by
 unfold apA at e
 split at e
 ·rename_i el hu
  split at e
  ·rename_i i hi
   split at e
   ·rename_i m ys hsr
    obtain ⟨s1,s2⟩:=srcT_ok hs hy hsr
    split at e
    ·rename_i h0
     have h0:=Nat.eq_of_beq_eq_true h0
     subst h0
     have hys:vals σ ys = []:=List.eq_nil_of_length_eq_zero (by simpa using s1.newsLen)
     rw [hys] at s1
     split at e
     ·cases e
      exact Yields.stay hs (app_none hu hi rfl (Nat.le_refl _) (fun _=>rfl) s1) (O.df_one.2 hx)
     ·cases e
      have hx':(V.s _ _ _ _).df σ:=hx
      exact Yields.stay hs (app_none hu hi rfl hx'.2 (fun h=>by cases h) s1) (O.df_one.2 hx)
     · cases e
    ·rename_i h0
     have hm0:m≠0:=fun e=>by subst e; cases h0
     split at e
     ·rename_i z n xs k hz hd
      split at e
      ·rename_i e1 e3 e4
       cases e
       have e1:=Nat.eq_of_beq_eq_true e1
       have e3:=Nat.le_of_ble_eq_true e3
       have e4:=Nat.le_of_ble_eq_true e4
       obtain ⟨d1,d2,d3,d4⟩:=dstA_ok hs hx hd
       obtain ⟨v',w',r1,r2,r3,r4⟩:=run_app_ow3 (P:=c.P) (ty:=ty) hu hi hz rfl rfl e1 d1 s1 (Nat.le_trans e3 (by unfold maxLen; omega)) (by omega) hs.le
       exact app_end hs hf hm d2 d3 d4 s2 r1 r2 r3 r4 (by omega)
      · cases e
     · cases e
   · cases e
  · cases e
 · cases e
theorem copy_run {P:Program} {w w':World} {dT sT ty e:TypeId} {i:TypeInfo} (hu:P.underlying dT=some (.slice e)) (hi:P.info? e=some i) {a:Addr} {n cap m:Nat} {x:Value} {cs:List Value}
 (hl:(Builtin.lenOf x).run P w = .ok m w) (hc:(Builtin.firstCells i.size (Nat.min m n) x).run P w = .ok cs.toArray w) (hst:(storeCells a cs 0).run P w = .ok () w') :
 (Builtin.copy_ #[dT,sT] ty #[.slice (some a) n cap,x]).run P w = .ok (goInt (Nat.min m n)) w':=by
 simp [Builtin.copy_,run_underlying hu,sizeOf,typeInfo,hi,hl,hc,hst]
noncomputable def fstA (h:H) (s k:Nat):V→Option (Nat×List V)
 | .ns=>some (0,[])
 | .se _ _ _ _ _=>some (0,[])
 | .s b o m _=>match h.at b with
   | some (.l l _ _)=>match Nat.ble (o+Nat.min m k*s) l.length with
     | true=>some (m,seg l o (Nat.min m k*s))
     | false=>none
   | _=>none
 | .t l=>match Nat.beq s 1 with
   | true=>some (l.length,(l.take k).map cellY)
   | false=>none
 | _=>none
theorem fstA_ok (hs:Hs c σ h w) {s k m:Nat} {x:V} {ys:List V} (hx:x.df σ) (he:fstA h s k x=some (m,ys)) :
 (Builtin.lenOf (x.val σ)).run c.P w = .ok m w∧(Builtin.firstCells s (Nat.min m k) (x.val σ)).run c.P w = .ok (vals σ ys).toArray w∧dfs σ ys∧ys.length=Nat.min m k*s:=by
 unfold fstA at he
 split at he
 ·cases he
  have e0:Nat.min 0 k=0:=Nat.zero_min k
  rw [e0]
  exact ⟨rfl,rfl,(fun _ h=>nomatch h),by simp⟩
 ·cases he
  have e0:Nat.min 0 k=0:=Nat.zero_min k
  rw [e0]
  exact ⟨rfl,run_firstCells_some (P:=c.P) w s 0 _ 0 _ [] (by simp) (fun j u hj=>by simp at hj),(fun _ h=>nomatch h),by simp⟩
 ·rename_i b o m' cp
  split at he
  ·rename_i l t ee hb
   split at he
   ·rename_i e1
    cases he
    have e1:=Nat.le_of_ble_eq_true e1
    obtain ⟨k1,k2,k3,k4⟩:=hs.blk b _ hb
    obtain ⟨C,f,hr,ht,hl,_⟩:=B.row k1 (.inr (by rw [vals_length]; exact Nat.le_refl _))
    have hsl:(seg l o (Nat.min m k*s)).length=Nat.min m k*s:=by unfold seg; rw [List.length_take,List.length_drop]; omega
    refine ⟨rfl,run_firstCells_some (P:=c.P) w s _ _ m _ _ (by rw [vals_length,hsl]) (fun j u hj => ?_),seg_df k2 _ _,hsl⟩
    have hj':j<Nat.min m k*s:=by rw [← hsl,← vals_length σ]; exact (List.getElem?_eq_some_iff.1 hj).1
    rw [al_add,cell_of_row w _ _ _ _ _ hr]
    have h2:C[o+j]? = (vals σ l)[o+j]? := by rw [← ht,List.getElem?_take,if_pos (by omega)]; simp
    rw [h2,← hj]
    simp only [vals,seg,List.getElem?_map,List.getElem?_take,List.getElem?_drop,if_pos hj']
   · cases he
  · cases he
 ·rename_i l
  split at he
  ·rename_i h1
   cases he
   have h1:=Nat.eq_of_beq_eq_true h1
   subst h1
   have hx' : ∀ y∈l,y.df σ:=hx
   obtain ⟨k1,k2⟩:=bys_cellY (σ:=σ) (l:=l.take k) (fun y hy=>hx' y (List.mem_of_mem_take hy))
   have hsz:ByteArray.size ⟨(l.map (Y.u σ)).toArray⟩=l.length:=by show (l.map (Y.u σ)).toArray.size=_; simp
   refine ⟨by simp only [V.val,Builtin.lenOf,hsz]; rfl,?_,k2,by rw [List.length_map,List.length_take,Nat.mul_one,Nat.min_comm]⟩
   rw [← k1]
   simp only [V.val,Builtin.firstCells,Sem.run_pure]
   congr 1
   apply Array.ext'
   simp [bys,List.map_take]
   exact Nat.min_comm ..
  · cases he
 · cases he
noncomputable def cpA (P:Program) (h:H) (t:TypeId) (x y:V):Option (R×Dl):=match P.underlying t,x with
 | some (.slice e),.s b o n _=>match P.info? e,h.at b with
   | some i,some (.l l t' ee)=>match fstA h i.size n y with
     | some (m,ys)=>match Nat.ble (o+ys.length) l.length with
       | true=>some (.o (.v (.i .i64 (Nat.min m n))),.put b (.l (putL l o ys) t' ee))
       | false=>none
     | none=>none
   | _,_=>none
 | _,_=>none
theorem cpA_ok (hs:Hs c σ h w) {t sT ty:TypeId} {x y:V} {r:R} {d:Dl} (hx:x.df σ) (hy:y.df σ) (e:cpA c.P h t x y=some (r,d)):Yields c σ h w (Builtin.copy_ #[t,sT] ty #[x.val σ,y.val σ]) r (d.on h):=by
 unfold cpA at e
 split at e
 ·rename_i el b o n cp hu
  split at e
  ·rename_i i l t' ee hi hb
   split at e
   ·rename_i m ys hf
    obtain ⟨f1,f2,f3,f4⟩:=fstA_ok hs hy hf
    split at e
    ·rename_i hle
     cases e
     obtain ⟨k1,k2,k3⟩:=store_cells hs hb f3 (Nat.le_of_ble_eq_true hle)
     exact ⟨_,σ,_,copy_run hu hi f1 f2 k1,k2,k3,rfl,df_num⟩
    · cases e
   · cases e
  · cases e
 · cases e
theorem rep_vals {zc:Array Value} {z:List V} {s:Nat} (hz:zc.toList=vals σ z) (h1:z.length=s) (n:Nat):((Array.range (n*s)).map (zc[· % zc.size]!)).toList=vals σ (rep z n):=by
 have hzl:zc.size=z.length:=by
  have:=congrArg List.length hz
  rw [vals_length,Array.length_toList] at this
  exact this
 apply List.ext_getElem?
 intro j
 simp only [Array.toList_map,Array.toList_range,List.getElem?_map,vals]
 by_cases hj:j<n*s
 ·rw [List.getElem?_range hj,rep_at z n j (by rw [h1]; exact hj)]
  have hzp:0<z.length:=by rw [h1]; exact Nat.pos_of_ne_zero fun e=>by rw [e] at hj; simp at hj
  have hm':=Nat.mod_lt j hzp
  simp only [Option.map_some,hzl]
  have h2:zc.toList[j%z.length]? = (vals σ z)[j%z.length]? := by rw [hz]
  rw [Array.getElem?_toList] at h2
  rw [getElem!_def,h2]
  simp only [vals,List.getElem?_map]
  rw [List.getElem?_eq_getElem hm']
  rfl
 ·rw [List.getElem?_eq_none (by simp; omega),List.getElem?_eq_none (by rw [rep_length,h1]; omega)]
  rfl
noncomputable def clA (P:Program) (h:H) (t:TypeId) (x:V):Option Dl:=match x with
 | .ns=>match P.underlying t with
   | some _=>some .no
   | none=>none
 | .se _ _ _ _ _=>match P.underlying t with
   | some _=>some .no
   | none=>none
 | .s b o n _=>match n with
   | 0=>match P.underlying t with
     | some _=>some .no
     | none=>none
   | n+1=>match P.underlying t with
     | some (.slice e)=>match zeroA P e,sizeA P e,h.at b with
       | some z,some s,some (.l l t' ee)=>match Nat.beq z.length s,Nat.ble (o+(n+1)*s) l.length with
         | true,true=>some (.put b (.l (putL l o (rep z (n+1))) t' ee))
         | _,_=>none
       | _,_,_=>none
     | _=>none
 | .m b=>match P.underlying t,h.at b with
   | some (.map _ _),some (.m _ n)=>some (.put b (.m [] n))
   | _,_=>none
 | _=>none
noncomputable def mkS (P:Program) (h:H) (t:TypeId) (l k:R):Option (R×Dl):=match P.underlying t,numR l,numR k with
 | some (.slice e),some l,some k=>match zeroA P e,P.info? e with
   | some z,some i=>match Nat.beq z.length i.size,Nat.ble l k,Nat.ble k 1000000,Nat.ble (i.bytes*k) 1000000000 with
     | true,true,true,true=>some (.o (.v (.s h.nx 0 l (.k k))),.new (.l (rep z k) e none))
     | _,_,_,_=>none
   | _,_=>none
 | _,_,_=>none
theorem mkS_ok (hs:Hs c σ h w) {t:TypeId} {x y r:R} {d:Dl} (e:mkS c.P h t x y=some (r,d)) (hf:Fr σ h (d.on h)) (hm:h.mr≤h.nx):Yields c σ h w (Instr.makeSlice t (x.val σ) (y.val σ)) r (d.on h):=by
 unfold mkS at e
 split at e
 ·rename_i el l k hu hl hk
  obtain ⟨kl,hl⟩:=numR_ok hl σ
  obtain ⟨kk,hk⟩:=numR_ok hk σ
  split at e
  ·rename_i z i hz hi
   split at e
   ·rename_i e1 e2 e3 e4
    cases e
    have e1:=Nat.eq_of_beq_eq_true e1
    have e2:=Nat.le_of_ble_eq_true e2
    have e3:=Nat.le_of_ble_eq_true e3
    have e4:=Nat.le_of_ble_eq_true e4
    obtain ⟨i',zv,hi',hzv,hzc,hzd⟩:=zeroA_ok hz σ w
    rw [hi] at hi'
    cases hi'
    have run:=run_make (P:=c.P) w t el i zv hu hi hzv kl kk (l:Int) (k:Int) (by omega) (by omega) (by
     have:((i.bytes*k:Nat):Int)≤281474976710656:=by omega
     rwa [Int.natCast_mul] at this) (by omega)
    simp only [Int.toNat_natCast] at run
    obtain ⟨σ',g1,g2,g3,g4⟩:=alloc_ok hs (t:=el) (l:=rep z k) hf hm (rep_df hzd k)
    have hC:madeCells zv.cells (k*i.size)=(vals σ (rep z k)).toArray:=by
     rw [← rep_vals (σ:=σ) hzc e1 k]
     unfold madeCells
     apply Array.ext'
     simp
    rw [hC] at run
    refine ⟨_,σ',_,by rw [hl,hk]; exact run,g1,g2,?_,(O.df_one (x := .s h.nx 0 l (.k k))).2 ⟨g4,e2⟩⟩
    simp only [R.val,O.val,V.val,g3,capOf]
   · cases e
  · cases e
 · cases e
noncomputable def capA (P:Program) (t:TypeId) (r:R):Option R:=match P.underlying t,r with
 | some (.array n _),_=>some (.o (.v (.i .i64 n)))
 | some (.slice _),.o (.v (.s _ _ _ (.k n)))=>some (.o (.v (.i .i64 n)))
 | some (.slice _),.o (.v .ns)=>some (.o (.v (.i .i64 0)))
 | _,_=>none
theorem capA_ok (hs:Hs c σ h w) {t ty:TypeId} {r r':R} (e:capA c.P t r=some r'):Yields c σ h w (Builtin.cap_ #[t] ty #[r.val σ]) r' h:=by
 unfold capA at e
 split at e <;> first
  | (rename_i hu; cases e; exact Yields.stay hs (by simp [Builtin.cap_,run_underlying hu,R.val,O.val,V.val,goInt,capOf]) df_num)
  | cases e
end Rn
end Go.Proofs.YtfodadedkilgdaaGreatDoor

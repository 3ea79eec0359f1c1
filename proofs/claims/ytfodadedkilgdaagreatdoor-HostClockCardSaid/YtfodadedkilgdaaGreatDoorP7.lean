/- A part of the proof. Plain; no condition. -/
import Derived.Test.YtfodadedkilgdaaGreatDoorP6
import Derived.MapKept
import Derived.Laws.StructEq
import Derived.Laws.Strings
namespace Go.Proofs.YtfodadedkilgdaaGreatDoor
set_option linter.unusedVariables false
set_option linter.unusedSimpArgs false
open Go.RowKit Mem
namespace Rn
variable {c:Cx} {σ σ':Sg} {h h1 h':H} {w w':World}
def exA (r:R) (i:Nat):Option R:=match r with
 | .t l=>(l[i]?).map R.o
 | _=>none
theorem exA_ok (hs:Hs c σ h w) {r r':R} {i:Nat} (hr:r.df σ) (e:exA r i=some r'):Yields c σ h w (Instr.extract (r.val σ) i) r' h:=by
 unfold exA at e
 split at e
 ·rename_i l
  obtain ⟨x,hx,rfl⟩:=Option.map_eq_some_iff.1 e
  refine Yields.stay hs ?_ (hr x (List.mem_of_getElem? hx))
  simp [Instr.extract,R.val,hx]
 · cases e
noncomputable def fdA (P:Program) (t:TypeId) (f:Nat) (r:R):Option R:=match fieldP P t f,r with
 | some (o,n,ft),.o (.a l)=>match P.underlying ft with
   | some d=>match d.isRow with
     | true=>match Nat.ble (o+n) l.length with
       | true=>some (.o (.a (seg l o n)))
       | false=>none
     | false=>(l[o]?).map fun x => .o (.v x)
   | none=>none
 | _,_=>none
noncomputable def lenA (P:Program) (h:H) (t:TypeId) (r:R):Option R:=match P.underlying t,r with
 | some .string,.o (.v (.t l))=>some (.o (.v (.i .i64 l.length)))
 | some (.array n _),_=>some (.o (.v (.i .i64 n)))
 | some (.slice _),.o (.v (.s _ _ n _))=>some (.o (.v (.i .i64 n)))
 | some (.slice _),.o (.v .ns)=>some (.o (.v (.i .i64 0)))
 | some (.slice _),.o (.v (.se _ _ _ _ _))=>some (.o (.v (.i .i64 0)))
 | some (.map _ _),.o (.v .nm)=>some (.o (.v (.i .i64 0)))
 | some (.map _ _),.o (.v (.m b))=>match h.at b with
   | some (.m es _)=>some (.o (.v (.i .i64 es.length)))
   | _=>none
 | _,_=>none
theorem df_num {k:IntKind} {n:Int}:(R.o (.v (.i k n))).df σ:=O.df_one.2 trivial
theorem lenA_ok (hs:Hs c σ h w) {t ty:TypeId} {r r':R} (e:lenA c.P h t r=some r'):Yields c σ h w (Builtin.len_ #[t] ty #[r.val σ]) r' h:=by
 unfold lenA at e
 split at e
 ·rename_i l hu
  cases e
  exact Yields.stay hs (by
   have hsz:ByteArray.size ⟨(l.map (Y.u σ)).toArray⟩=l.length:=by show (l.map (Y.u σ)).toArray.size=_; simp
   simp only [R.val,O.val,V.val,Builtin.len_,List.getElem?_toArray,List.getElem?_cons_zero,Sem.run_bind,run_underlying hu,Result.andThen_ok,Sem.run_pure,goInt,hsz]) df_num
 ·rename_i n el hu
  cases e
  exact Yields.stay hs (by simp [Builtin.len_,run_underlying hu,R.val,O.val,V.val,goInt]) df_num
 ·rename_i el b o n cp hu
  cases e
  exact Yields.stay hs (by simp [Builtin.len_,run_underlying hu,R.val,O.val,V.val,goInt]) df_num
 ·rename_i el hu
  cases e
  exact Yields.stay hs (by simp [Builtin.len_,run_underlying hu,R.val,O.val,V.val,goInt]) df_num
 ·rename_i el b o cp lo s hu
  cases e
  exact Yields.stay hs (by simp [Builtin.len_,run_underlying hu,R.val,O.val,V.val,goInt]) df_num
 ·rename_i el hu
  cases e
  exact Yields.stay hs (by simp [Builtin.len_,run_underlying hu,R.val,O.val,V.val,goInt]) df_num
 ·rename_i k el b hu
  split at e
  ·rename_i es n hb
   cases e
   have hm:w.heap[σ.bl b]? = some (.map (es.map (ent σ)).toArray n):=(hs.blk b _ hb).1
   exact Yields.stay hs (by
    simp only [R.val,O.val,V.val,Builtin.len_,List.getElem?_toArray,List.getElem?_cons_zero,Sem.run_bind,run_underlying hu,Result.andThen_ok,Sem.run_pure,goInt,Go.MapKept.run_getObj_map (P:=c.P) hm]
    simp) df_num
  · cases e
 · cases e
noncomputable def s2A (P:Program) (t:TypeId) (r:R):Option R:=match P.underlying t,r with
 | some (.array n _),.o (.v (.s b o m _))=>match Nat.ble n m with
   | true=>some (.o (.v (.p b o)))
   | false=>none
 | _,_=>none
theorem s2A_ok (hs:Hs c σ h w) {t:TypeId} {r r':R} (hr:r.df σ) (e:s2A c.P t r=some r'):Yields c σ h w (Instr.arrayAt t (r.val σ)) r' h:=by
 unfold s2A at e
 split at e
 ·rename_i n el b o m cp hu
  split at e
  ·rename_i hle
   cases e
   have hle:=Nat.le_of_ble_eq_true hle
   have hr':(V.s b o m cp).df σ:=O.df_one.1 hr
   refine Yields.stay hs ?_ ((O.df_one (x := .p b o)).2 hr'.1)
   simp [Instr.arrayAt,run_underlying hu,R.val,O.val,V.val,Nat.not_lt.2 hle]
  · cases e
 · cases e
theorem fdA_ok (hs:Hs c σ h w) {t:TypeId} {f:Nat} {r r':R} (hr:r.df σ) (e:fdA c.P t f r=some r'):Yields c σ h w (Instr.field t (r.val σ) f) r' h:=by
 unfold fdA at e
 split at e
 ·rename_i o n ft l hfd
  obtain ⟨fs,fd,i,hu,hf,hi,rfl,rfl,rfl⟩:=fieldP_ok hfd
  have hl:dfs σ l:=hr
  split at e
  ·rename_i d hd
   split at e
   ·rename_i hrow
    split at e
    ·rename_i hle
     cases e
     have hle:=Nat.le_of_ble_eq_true hle
     refine Yields.stay hs ?_ (seg_df hl _ _)
     have hz:((vals σ l).toArray.extract fd.offset (fd.offset+i.size))=(vals σ (seg l fd.offset i.size)).toArray:=by
      apply Array.ext'
      simp [vals,seg,List.map_drop,List.map_take,List.extract_eq_take_drop]
     cases d <;> first | (simp at hrow; done) | simp only [Instr.field,Sem.run_bind,run_underlying hu,Result.andThen_ok,hf,R.val,O.val,asAgg,part,isAgg,run_underlying hd,sizeOf,run_typeInfo w hi,Sem.run_pure,if_true,hz]
    · cases e
   ·rename_i hrow
    obtain ⟨x,hx,rfl⟩:=Option.map_eq_some_iff.1 e
    refine Yields.stay hs ?_ (O.df_one.2 (hl x (List.mem_of_getElem? hx)))
    have hc:(vals σ l)[fd.offset]? = some (x.val σ):=by simp [vals,hx]
    cases d <;> first | (simp at hrow; done) | simp [Instr.field,run_underlying hu,hf,R.val,O.val,asAgg,part,isAgg,run_underlying hd,hc]
  · cases e
 · cases e
end Rn
end Go.Proofs.YtfodadedkilgdaaGreatDoor
namespace Go.Proofs.YtfodadedkilgdaaGreatDoor
set_option linter.unusedVariables false
set_option linter.unusedSimpArgs false
open Go.RowKit Mem
namespace Rn
variable {c:Cx} {σ σ':Sg} {h h1 h':H} {w w':World}
def numB (op:BinOp) (k:IntKind) (x y:Int):Option V:=match op with
 | .add=>some (.i k (k.wrap (x+y)))
 | .sub=>some (.i k (k.wrap (x-y)))
 | .mul=>some (.i k (k.wrap (x*y)))
 | .quo=>match decide (y=0) with
   | true=>none
   | false=>some (.i k (k.wrap (x.tdiv y)))
 | .rem=>match decide (y=0) with
   | true=>none
   | false=>some (.i k (x.tmod y))
 | .and=>some (.i k (k.wrap (BitVec.ofInt k.bits x &&& BitVec.ofInt k.bits y).toNat))
 | .or=>some (.i k (k.wrap (BitVec.ofInt k.bits x ||| BitVec.ofInt k.bits y).toNat))
 | .xor=>some (.i k (k.wrap (BitVec.ofInt k.bits x ^^^ BitVec.ofInt k.bits y).toNat))
 | .eql=>some (.b (x==y))
 | .neq=>some (.b (x != y))
 | .lss=>some (.b (decide (x<y)))
 | .leq=>some (.b (decide (x≤y)))
 | .gtr=>some (.b (decide (x>y)))
 | .geq=>some (.b (decide (x≥y)))
 | _=>none
theorem numB_ok {op:BinOp} {k:IntKind} {x y:Int} {v:V} (e:numB op k x y=some v) (P:Program) (w:World) (σ:Sg) (t:TypeId) (ox oy:Operand) :
 ((do eqGuard op t ox oy (.int k x) (.int k y); binOp op t (.int k x) (.int k y):Sem Value)).run P w = .ok (v.val σ) w∧v.df σ:=by
 unfold numB at e
 split at e <;> first
  | (cases e; refine ⟨?_,trivial⟩; simp [eqGuard,binOp,Op.intArith,Op.intBits,Op.intCmp,V.val]; done)
  | (split at e <;> first
   | (rename_i hy; cases e; have hy:=of_decide_eq_false hy; refine ⟨?_,trivial⟩; simp [eqGuard,binOp,Op.intDiv,hy,V.val]; done)
   | (cases e; done))
  | cases e
def shB (op:BinOp) (k:IntKind) (x y:Int):Option V:=match decide (y<0),op with
 | false,.shl=>some (.i k (k.wrap (x*2^(min y.toNat k.bits))))
 | false,.shr=>some (.i k (x.fdiv (2^(min y.toNat k.bits))))
 | _,_=>none
theorem shB_ok {op:BinOp} {k k':IntKind} {x y:Int} {v:V} (e:shB op k x y=some v) (P:Program) (w:World) (σ:Sg) (t:TypeId) (ox oy:Operand) :
 ((do eqGuard op t ox oy (.int k x) (.int k' y); binOp op t (.int k x) (.int k' y):Sem Value)).run P w = .ok (v.val σ) w∧v.df σ:=by
 unfold shB at e
 split at e
 ·rename_i hy
  have hy:=of_decide_eq_false hy
  cases e
  refine ⟨?_,trivial⟩
  simp [eqGuard,binOp,Op.shift,hy,V.val]
 ·rename_i hy
  have hy:=of_decide_eq_false hy
  cases e
  refine ⟨?_,trivial⟩
  simp [eqGuard,binOp,Op.shift,hy,V.val]
 · cases e
end Rn
end Go.Proofs.YtfodadedkilgdaaGreatDoor
namespace Go.Proofs.YtfodadedkilgdaaGreatDoor
set_option linter.unusedVariables false
set_option linter.unusedSimpArgs false
open Go.RowKit Mem
namespace Rn
variable {c:Cx} {σ σ':Sg} {h h1 h':H} {w w':World}
def yeq:Y→Y→Option Bool
 | .k a,.k b=>some (Nat.beq (a%256) (b%256))
 | .x o i,.x p j=>match Nat.beq o p,Nat.beq i j with
   | true,true=>some true
   | _,_=>none
 | _,_=>none
theorem yeq_ok {a b:Y} {z:Bool} (e:yeq a b=some z) (σ:Sg):z=true↔a.u σ=b.u σ:=by
 unfold yeq at e
 split at e
 ·rename_i a b
  cases e
  simp only [Y.u]
  rw [← UInt8.toNat_inj]
  simp only [UInt8.toNat_ofNat']
  constructor
  · intro h; exact Nat.eq_of_beq_eq_true h
  ·intro h
   have h:a%256=b%256:=h
   rw [h]
   simp
 ·split at e
  ·rename_i e1 e2
   cases e
   have e1:=Nat.eq_of_beq_eq_true e1
   have e2:=Nat.eq_of_beq_eq_true e2
   subst e1 e2
   simp
  · cases e
 · cases e
def eqY:List Y→List Y→Option Bool
 | [],[]=>some true
 | a::r,b::s=>match Nat.beq r.length s.length with
   | false=>some false
   | true=>match yeq a b,eqY r s with
     | some true,x=>x
     | some false,_=>some false
     | none,some false=>some false
     | none,_=>none
 | _,_=>some false
theorem eqY_ok (σ:Sg) : ∀ {x y:List Y} {z:Bool},eqY x y=some z→(z=true↔x.map (Y.u σ)=y.map (Y.u σ))
 | [],[],z,e=>by cases e; simp
 | a::r,b::s,z,e=>by
   unfold eqY at e
   split at e
   ·rename_i hl
    cases e
    refine ⟨fun h=>(by cases h),fun h => ?_⟩
    have:=congrArg List.length h
    simp at this
    rw [this] at hl
    simp at hl
   ·split at e
    ·rename_i h1
     have i1:=(yeq_ok h1 σ).1 rfl
     have i2:=eqY_ok σ e
     simp [i1,i2]
    ·rename_i h1
     cases e
     have i1 : ¬ a.u σ=b.u σ:=fun h=>by have:=(yeq_ok h1 σ).2 h; cases this
     simp [i1]
    ·rename_i h1 h2
     cases e
     have i2 : ¬ r.map (Y.u σ)=s.map (Y.u σ):=fun h=>by have:=(eqY_ok σ h2).2 h; cases this
     refine ⟨fun h=>(by cases h),fun h => ?_⟩
     simp only [List.map_cons,List.cons.injEq] at h
     exact absurd h.2 i2
    · cases e
 | [],b::s,z,e=>by cases e; simp
 | a::r,[],z,e=>by cases e; simp
theorem str_eq {x y:List Y} {z:Bool} (e:eqY x y=some z) (σ:Sg):((⟨(x.map (Y.u σ)).toArray⟩:ByteArray)==⟨(y.map (Y.u σ)).toArray⟩)=z:=by
 have h:=eqY_ok σ e
 rw [beq_toListBytes,ByteArray.toList_mk,ByteArray.toList_mk]
 cases z with
 | true=>rw [h.1 rfl]; simp
 | false =>
   rw [beq_eq_false_iff_ne]
   intro h2
   have:=h.2 h2
   cases this
end Rn
end Go.Proofs.YtfodadedkilgdaaGreatDoor
namespace Go.Proofs.YtfodadedkilgdaaGreatDoor
set_option linter.unusedVariables false
set_option linter.unusedSimpArgs false
open Go.RowKit Mem
namespace Rn
variable {c:Cx} {σ σ':Sg} {h h1 h':H} {w w':World}
def findE (k:List Y):List (V×O×Nat)→Nat→Option (Option (Nat×O))
 | [],_=>some none
 | e::r,i=>match e.1 with
   | .t l=>match eqY k l with
     | some true=>some (some (i,e.2.1))
     | some false=>findE k r (i+1)
     | none=>none
   | _=>none
theorem findE_ok (σ:Sg) {k:List Y} : ∀ {es:List (V×O×Nat)} {i:Nat} {z:Option (Nat×O)},findE k es i=some z→Instr.findNow .string ((V.t k).val σ) (es.map (ent σ)) i=some (z.map fun p=>(p.1,p.2.val σ))
 | [],i,z,e=>by cases e; rfl
 | (kk,v,n)::r,i,z,e=>by
   unfold findE at e
   dsimp only at e
   split at e
   ·rename_i l
    split at e
    ·rename_i hq
     cases e
     have:=str_eq hq σ
     simp only [List.map_cons,ent,V.val,Instr.findNow,Instr.sameNow,this,Option.map_some]
    ·rename_i hq
     have:=str_eq hq σ
     simp only [List.map_cons,ent,V.val,Instr.findNow,Instr.sameNow,this]
     exact findE_ok σ e
    · cases e
   · cases e
theorem check_text {P:Program} {t:TypeId} (hu:P.underlying t=some .string) (b:Bool) (n:Nat) (s:ByteArray) (w:World):(Instr.checkKey b (n+1) t (.string s)).run P w = .ok () w:=by
 simp [Instr.checkKey,run_underlying hu]
def zeroO (P:Program) (t:TypeId):Option O:=match P.info? t with
 | some i=>match i.zero with
   | some z=>match ofK z with
     | some (.o x)=>some x
     | _=>none
   | none=>none
 | none=>none
theorem zeroO_ok {P:Program} {t:TypeId} {x:O} (e:zeroO P t=some x) (σ:Sg) (w:World):(zeroValue t).run P w = .ok (x.val σ) w∧x.df σ:=by
 unfold zeroO at e
 split at e
 ·rename_i i hi
  split at e
  ·rename_i z hz
   split at e
   ·rename_i x' hx
    cases e
    obtain ⟨k1,k2⟩:=ofK_ok hx σ
    exact ⟨by simp [zeroValue,run_typeInfo w hi,hz,k1,R.val],k2⟩
   · cases e
  · cases e
 · cases e
noncomputable def lkA (P:Program) (h:H) (t:TypeId) (x i:R) (ok:Bool):Option R:=match P.underlying t,x,i with
 | some (.map key elem),.o (.v (.m b)),.o (.v (.t k))=>match P.underlying key,h.at b,zeroO P elem with
   | some .string,some (.m es _),some z=>match findE k es 0 with
     | some (some (_,v))=>match ok with
       | true=>some (.t [v,.v (.b true)])
       | false=>some (.o v)
     | some none=>match ok with
       | true=>some (.t [z,.v (.b false)])
       | false=>some (.o z)
     | none=>none
   | _,_,_=>none
 | _,_,_=>none
theorem findE_df {k:List Y} : ∀ {es:List (V×O×Nat)} {i j:Nat} {v:O},findE k es i=some (some (j,v)) → ∃ e∈es,e.2.1=v
 | (kk,v,n)::r,i,j,u,e=>by
   unfold findE at e
   dsimp only at e
   split at e
   ·split at e
    · cases e; exact ⟨_,List.mem_cons_self ..,rfl⟩
    · obtain ⟨x,hx,hv⟩:=findE_df e; exact ⟨x,List.mem_cons_of_mem _ hx,hv⟩
    · cases e
   · cases e
theorem lkA_ok (hs:Hs c σ h w) {t:TypeId} {x i r:R} {ok:Bool} (e:lkA c.P h t x i ok=some r):Yields c σ h w (Instr.lookup t (x.val σ) (i.val σ) ok) r h:=by
 unfold lkA at e
 split at e
 ·rename_i key elem b k hu
  split at e
  ·rename_i es n z hk hb hz
   obtain ⟨b1,b2,_⟩:=hs.blk b _ hb
   have hm:w.heap[σ.bl b]? = some (.map (es.map (ent σ)).toArray n):=b1
   obtain ⟨z1,z2⟩:=zeroO_ok hz σ w
   split at e
   ·rename_i j v hf
    have hq:=findE_ok σ hf
    obtain ⟨en,hen,rfl⟩:=findE_df hf
    have hd:=(b2 en hen).2
    have run:(Instr.lookup t (R.val σ (.o (.v (.m b)))) (R.val σ (.o (.v (.t k)))) ok).run c.P w = .ok (if ok then .tuple #[en.2.1.val σ,.bool true] else en.2.1.val σ) w:=by
     simp only [V.val] at hq
     simp only [Instr.lookup,Sem.run_bind,run_underlying hu,Result.andThen_ok,R.val,O.val,V.val,Go.MapKept.run_getObj_map (P:=c.P) hm,Sem.run_pure,check_text hk,Instr.findKey,run_underlying hk,hq,Option.map_some]
    split at e
    ·cases e
     refine ⟨_,σ,w,run,hs,St.refl hs,rfl,fun y hy => ?_⟩
     rcases List.mem_cons.1 hy with rfl | hy
     · exact hd
     · rw [List.mem_singleton.1 hy]; exact O.df_one.2 trivial
    ·cases e
     exact ⟨_,σ,w,run,hs,St.refl hs,rfl,hd⟩
   ·rename_i hf
    have hq:=findE_ok σ hf
    have run:(Instr.lookup t (R.val σ (.o (.v (.m b)))) (R.val σ (.o (.v (.t k)))) ok).run c.P w = .ok (if ok then .tuple #[z.val σ,.bool false] else z.val σ) w:=by
     simp only [V.val] at hq
     simp only [Instr.lookup,Sem.run_bind,run_underlying hu,Result.andThen_ok,R.val,O.val,V.val,Go.MapKept.run_getObj_map (P:=c.P) hm,Sem.run_pure,check_text hk,Instr.findKey,run_underlying hk,hq,Option.map_none,z1]
    split at e
    ·cases e
     refine ⟨_,σ,w,run,hs,St.refl hs,rfl,fun y hy => ?_⟩
     rcases List.mem_cons.1 hy with rfl | hy
     · exact z2
     · rw [List.mem_singleton.1 hy]; exact O.df_one.2 trivial
    ·cases e
     exact ⟨_,σ,w,run,hs,St.refl hs,rfl,z2⟩
   · cases e
  · cases e
 · cases e
end Rn
end Go.Proofs.YtfodadedkilgdaaGreatDoor
namespace Go.Proofs.YtfodadedkilgdaaGreatDoor
set_option linter.unusedVariables false
set_option linter.unusedSimpArgs false
open Go.RowKit Mem
namespace Rn
variable {c:Cx} {σ σ':Sg} {h h1 h':H} {w w':World}
def mkA (h:H):R×Dl:=(.o (.v (.m h.nx)),.new (.m [] 0))
theorem mkA_ok (hs:Hs c σ h w) {t:TypeId} {r:R} {d:Dl} (e:mkA h=(r,d)) (hf:Fr σ h (d.on h)) (hm:h.mr≤h.nx):Yields c σ h w (Instr.makeMap t none) r (d.on h):=by
 cases e
 have hn:σ.β h.nx=none:=hf.1 h.nx (Nat.le_refl _) (Nat.lt_succ_self _)
 obtain ⟨k1,k2⟩:=hs.adopt hn hm (x := .m [] 0) (a:=w.heap.size) (g:=0) (w':=w.alloc (.map #[] 0)) ((Below.refl _ _).alloc (Nat.le_refl _) _) (Nat.le_refl _)
  (by show (w.alloc (.map #[] 0)).heap[(σ.name h.nx w.heap.size 0).bl h.nx]? = _; rw [Sg.name_bl.1]; exact heap_alloc_new w _) (fun _ h=>nomatch h)
 refine ⟨_,_,_,?_,k1,k2,rfl,(O.df_one (x := .m h.nx)).2 ⟨_,Sg.name_bl.2.2⟩⟩
 simp only [R.val,O.val,V.val,Sg.name_bl.1]
 rfl
def setO (w:World) (r:Nat) (o:Obj):World := {w with heap:=w.heap.setIfInBounds r o}
theorem setO_same {r:Nat} {o:Obj} (h:r<w.heap.size):(setO w r o).heap[r]? = some o:=by simp [setO,h]
theorem setO_other {r k:Nat} {o:Obj} (h:k≠r):(setO w r o).heap[k]? = w.heap[k]? := by simp [setO,Array.getElem?_setIfInBounds_ne (Ne.symm h)]
theorem map_put (hs:Hs c σ h w) {b:Nat} {es es':List (V×O×Nat)} {n n':Nat} (hb:h.at b=some (.m es n)) (hd : ∀ e∈es',e.1.df σ∧e.2.1.df σ) :
 (setObj (σ.bl b) (.map (es'.map (ent σ)).toArray n')).run c.P w = .ok () (setO w (σ.bl b) (.map (es'.map (ent σ)).toArray n'))∧Hs c σ (h.put b (some (.m es' n'))) (setO w (σ.bl b) (.map (es'.map (ent σ)).toArray n'))∧St σ σ h (h.put b (some (.m es' n'))) w (setO w (σ.bl b) (.map (es'.map (ent σ)).toArray n')):=by
 obtain ⟨b1,b2,_⟩:=hs.blk b _ hb
 have hm:w.heap[σ.bl b]? = some (.map (es.map (ent σ)).toArray n):=b1
 have hlt:=B.lt (hs.blk b _ hb).1
 obtain ⟨k1,k2⟩:=hs.put hb (x:=some (.m es' n')) (w':=setO w (σ.bl b) (.map (es'.map (ent σ)).toArray n')) ⟨rfl,rfl,rfl,by simp [setO],fun k hk hn=>setO_other hn⟩ (fun z hz=>by
  cases hz
  exact ⟨setO_same hlt,hd⟩)
 exact ⟨Go.MapKept.run_setObj_map _ hm,k1,k2⟩
noncomputable def delA (P:Program) (h:H) (t:TypeId) (x i:R):Option Dl:=match P.underlying t,x,i with
 | some (.map key _),.o (.v (.m b)),.o (.v (.t k))=>match P.underlying key,h.at b with
   | some .string,some (.m es n)=>match findE k es 0 with
     | some (some (j,_))=>some (.put b (.m (es.eraseIdx j) n))
     | some none=>some (.put b (.m es n))
     | none=>none
   | _,_=>none
 | _,_,_=>none
noncomputable def upA (P:Program) (h:H) (t:TypeId) (x i:R) (v:O):Option Dl:=match P.underlying t,x,i with
 | some (.map key _),.o (.v (.m b)),.o (.v (.t k))=>match P.underlying key,h.at b with
   | some .string,some (.m es n)=>match findE k es 0 with
     | some (some (j,_))=>some (.put b (.m (es.modify j fun e=>(.t k,v,e.2.2)) n))
     | some none=>some (.put b (.m (es ++ [(.t k,v,n)]) (n+1)))
     | none=>none
   | _,_=>none
 | _,_,_=>none
theorem findE_at {k:List Y} (σ:Sg) : ∀ {es:List (V×O×Nat)} {i j:Nat} {v:O},findE k es i=some (some (j,v))→i≤j ∧ ∃ e l,es[j-i]? = some e∧e.1 = .t l∧e.2.1=v∧k.map (Y.u σ)=l.map (Y.u σ)
 | (kk,v,n)::r,i,j,u,e=>by
   unfold findE at e
   dsimp only at e
   split at e
   ·rename_i l
    split at e
    ·rename_i hq
     cases e
     exact ⟨Nat.le_refl _,_,l,by rw [Nat.sub_self]; rfl,rfl,rfl,(eqY_ok σ hq).1 rfl⟩
    ·obtain ⟨h1,e',l',h2,h3⟩:=findE_at σ e
     exact ⟨by omega,e',l',by rw [show j-i=(j-(i+1))+1 by omega,List.getElem?_cons_succ]; exact h2,h3⟩
    · cases e
   · cases e
end Rn
end Go.Proofs.YtfodadedkilgdaaGreatDoor

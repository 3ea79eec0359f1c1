/- A part of the proof. Plain; no condition. -/
import Derived.Test.YtfodadedkilgdaaGreatDoorP27
import Derived.Test.YtfodadedkilgdaaGreatDoorP23
import Derived.Test.YtfodadedkilgdaaGreatDoorP0
import Derived.Test.YtfodadedkilgdaaGreatDoorP32
import Derived.Test.YtfodadedkilgdaaGreatDoorP2
import Derived.Test.YtfodadedkilgdaaGreatDoorP30
import Derived.Test.YtfodadedkilgdaaGreatDoorP28
import Derived.Test.YtfodadedkilgdaaGreatDoorP31
import Derived.Test.YtfodadedkilgdaaGreatDoorChecked
import Derived.WalkSpells
import Derived.WalkLawsBesides
import Derived.Lib.Hide
import Derived.Deep.Cut
namespace Go.Proofs.YtfodadedkilgdaaGreatDoor
open Go.RowKit Bits Mem
namespace Rp
variable {P:Program}
theorem run_low (t e:TypeId) (i:TypeInfo) (ht:P.underlying t=some (.slice e)) (hi:P.info? e=some i) (b off n c k:Nat) (hk:k<n) (hn:n≤c) (x:World) :
 (Instr.slice t (.slice (some ⟨b,off,none⟩) n c) (some (.int .i64 (k:Int))) none none).run P x = .ok (.slice (some ⟨b,off+k*i.size,none⟩) (n-k) (c-k)) x:=by
 have h1 : ¬ c≤k:=by omega
 have h2:(k:Int)≤(n:Int):=by omega
 have h3:(n:Int)≤(c:Int):=by omega
 have h4:(k:Int)≤(c:Int):=by omega
 have h5 : ¬ c-k=0:=by omega
 have e:(if k*i.size=0 then (⟨b,off,none⟩:Addr) else ⟨b,off+k*i.size,none⟩)=⟨b,off+k*i.size,none⟩:=by
  split
  · rename_i h; rw [h]; rfl
  · rfl
 have h6 : ¬ c=k:=by omega
 have h7:k≤n:=Nat.le_of_lt hk
 simp [Instr.slice,Instr.sliceBounds,Instr.sliceBound,asIntOf,Sem.run_bind,run_underlying ht,sizeOf,typeInfo,hi,h6,h7,Addr.add,e]
theorem run_low2 (t e:TypeId) (i:TypeInfo) (ht:P.underlying t=some (.slice e)) (hi:P.info? e=some i) (b off n c k:Nat) (hk:k≤n) (hn:n≤c) (x:World) :
 ∃ o',(Instr.slice t (.slice (some ⟨b,off,none⟩) n c) (some (.int .i64 (k:Int))) none none).run P x = .ok (.slice (some ⟨b,o',none⟩) (n-k) (c-k)) x∧(k<n→o'=off+k*i.size):=by
 rcases Nat.lt_or_ge k n with h | h
 · exact ⟨_,run_low t e i ht hi b off n c k h hn x,fun _=>rfl⟩
 ·obtain rfl:k=n:=by omega
  have h3:(k:Int)≤(c:Int):=by omega
  by_cases h6:c=k
  ·subst h6
   refine ⟨off,?_,fun h=>absurd h (Nat.lt_irrefl _)⟩
   simp [Instr.slice,Instr.sliceBounds,Instr.sliceBound,asIntOf,Sem.run_bind,run_underlying ht,sizeOf,typeInfo,hi]
  ·refine ⟨off+k*i.size,?_,fun h=>absurd h (Nat.lt_irrefl _)⟩
   have e:(if k*i.size=0 then (⟨b,off,none⟩:Addr) else ⟨b,off+k*i.size,none⟩)=⟨b,off+k*i.size,none⟩:=by
    split
    · rename_i h; rw [h]; rfl
    · rfl
   simp [Instr.slice,Instr.sliceBounds,Instr.sliceBound,asIntOf,Sem.run_bind,run_underlying ht,sizeOf,typeInfo,hi,h6,Addr.add,e]
end Rp
end Go.Proofs.YtfodadedkilgdaaGreatDoor
namespace Go.Proofs.YtfodadedkilgdaaGreatDoor
set_option linter.unusedVariables false
set_option linter.unusedSimpArgs false
open Go.RowKit Bits Mem
namespace Ab
theorem infoU8A:(Tryz.prog.info? 5).map (·.size)=some 1:=by kernel_rfl
end Ab
end Go.Proofs.YtfodadedkilgdaaGreatDoor
namespace Go.Proofs.YtfodadedkilgdaaGreatDoor
open Go.RowKit Bits
namespace Ref
theorem wrap64_nat (a:Nat) (h:a<9223372036854775808):IntKind.i64.wrap (a:Int)=(a:Int):=IntWalk.i64_in _ (by omega)
theorem ofInt64 (a:Nat) (h:a<18446744073709551616):(BitVec.ofInt 64 (a:Int)).toNat=a:=by
 rw [BitVec.ofInt_natCast,BitVec.toNat_ofNat]; exact Nat.mod_eq_of_lt (by omega)
theorem i64_and (a b:Nat) (ha:a<9223372036854775808) (hb:b<9223372036854775808):bits .and .i64 (a:Int) (b:Int)=((a &&& b:Nat):Int):=by
 show IntKind.i64.wrap ((BitVec.ofInt 64 (a:Int) &&& BitVec.ofInt 64 (b:Int)).toNat:Int)=_
 rw [BitVec.toNat_and,ofInt64 a (by omega),ofInt64 b (by omega)]
 exact wrap64_nat _ (Nat.lt_of_le_of_lt Nat.and_le_left ha)
theorem i64_xor (a b:Nat) (ha:a<9223372036854775808) (hb:b<9223372036854775808):bits .xor .i64 (a:Int) (b:Int)=((a ^^^ b:Nat):Int):=by
 show IntKind.i64.wrap ((BitVec.ofInt 64 (a:Int) ^^^ BitVec.ofInt 64 (b:Int)).toNat:Int)=_
 rw [BitVec.toNat_xor,ofInt64 a (by omega),ofInt64 b (by omega)]
 exact wrap64_nat _ (Nat.xor_lt_two_pow (n:=63) (by omega) (by omega))
@[go_sem] theorem n_and (a b:BitVec 32):bits .and .i64 (n32 a) (n32 b)=n32 (a &&& b):=by
 have h1:=a.isLt; have h2:=b.isLt
 unfold n32; rw [i64_and _ _ (by omega) (by omega),BitVec.toNat_and]
@[go_sem] theorem n_xor (a b:BitVec 32):bits .xor .i64 (n32 a) (n32 b)=n32 (a ^^^ b):=by
 have h1:=a.isLt; have h2:=b.isLt
 unfold n32; rw [i64_xor _ _ (by omega) (by omega),BitVec.toNat_xor]
@[go_sem] theorem n_not (a:BitVec 32):bits .xor .i64 (4294967295:Int) (n32 a)=n32 (~~~a):=by
 have h:(4294967295:Int)=n32 (BitVec.allOnes 32):=by decide
 rw [h,n_xor,BitVec.allOnes_xor]
@[go_sem] theorem shr3 (a:BitVec 32):n32 a / (8:Int)=n32 (a >>> 3):=u32_shr a 3
@[go_sem] theorem shr10 (a:BitVec 32):n32 a / (1024:Int)=n32 (a >>> 10):=u32_shr a 10
end Ref
end Go.Proofs.YtfodadedkilgdaaGreatDoor
namespace Go.Proofs.YtfodadedkilgdaaGreatDoor
set_option linter.unusedVariables false
set_option linter.unusedSimpArgs false
open Go.RowKit Bits Mem
namespace Ab
theorem sl_low (pb po len cap n:Nat) (hnl:n≤len) (l1:len≤cap) : ∃ o',(∀ w:World,(Instr.sliceAt 31 (.slice (some ⟨pb,po,none⟩) len cap) (some (.int .i64 (n:Int))) none none).run Tryz.prog w = .ok (.slice (some ⟨pb,o',none⟩) (len-n) (cap-n)) w)∧(n<len→o'=po+n):=by
 obtain ⟨i8,hi8,hs8⟩ : ∃ i8,Tryz.prog.info? 5=some i8∧i8.size=1:=by
  obtain ⟨i0,h1,h2⟩:=Option.map_eq_some_iff.1 infoU8A
  exact ⟨i0,h1,h2⟩
 have w0:World:=(default:World)
 obtain ⟨o',h1,h2⟩:=Rp.run_low2 (P:=Tryz.prog) 31 5 i8 Tryz.underlying31 hi8 pb po len cap n hnl l1 w0
 have hw0 : ∀ w':World,(Instr.slice 31 (.slice (some ⟨pb,po,none⟩) len cap) (some (.int .i64 (n:Int))) none none).run Tryz.prog w' = .ok (.slice (some ⟨pb,o',none⟩) (len-n) (cap-n)) w':=fun w'=>by
  have hcl:cap=n∨cap≠n:=by omega
  rcases hcl with hcl | hcl
  ·simp [Instr.slice,Instr.sliceBounds,Instr.sliceBound,asIntOf,Sem.run_bind,run_underlying Tryz.underlying31,sizeOf,typeInfo,hi8,hcl,show n≤len from hnl] at h1 ⊢
   exact h1
  ·simp [Instr.slice,Instr.sliceBounds,Instr.sliceBound,asIntOf,Sem.run_bind,run_underlying Tryz.underlying31,sizeOf,typeInfo,hi8,hcl,show n≤len from hnl] at h1 ⊢
   exact h1
 exact ⟨o',fun w'=>by simp [Instr.sliceAt,Sem.run_bind,run_underlying Tryz.underlying31,hw0],fun h=>by rw [h2 h,hs8,Nat.mul_one]⟩
end Ab
end Go.Proofs.YtfodadedkilgdaaGreatDoor
namespace Go.Proofs.YtfodadedkilgdaaGreatDoor
set_option linter.unusedVariables false
set_option linter.unusedSimpArgs false
open Go.RowKit B64 Mem
namespace S5
open Sha (bt be be_succ be_length lt_of_heap Parts bysA bysA_size bysA_one info1 Rd_form Rd_lt Rd_drop Rd_none grown_trans grown_below flatten_take_succ flatten_take_le)
def z64:List UInt8:=List.replicate 64 0
set_option maxRecDepth 10000 in
theorem z64_arr:(#[.int .u8 0,.int .u8 0,.int .u8 0,.int .u8 0,.int .u8 0,.int .u8 0,.int .u8 0,.int .u8 0,.int .u8 0,.int .u8 0,.int .u8 0,.int .u8 0,.int .u8 0,.int .u8 0,.int .u8 0,.int .u8 0,.int .u8 0,.int .u8 0,.int .u8 0,.int .u8 0,.int .u8 0,.int .u8 0,.int .u8 0,.int .u8 0,.int .u8 0,.int .u8 0,.int .u8 0,.int .u8 0,.int .u8 0,.int .u8 0,.int .u8 0,.int .u8 0,.int .u8 0,.int .u8 0,.int .u8 0,.int .u8 0,.int .u8 0,.int .u8 0,.int .u8 0,.int .u8 0,.int .u8 0,.int .u8 0,.int .u8 0,.int .u8 0,.int .u8 0,.int .u8 0,.int .u8 0,.int .u8 0,.int .u8 0,.int .u8 0,.int .u8 0,.int .u8 0,.int .u8 0,.int .u8 0,.int .u8 0,.int .u8 0,.int .u8 0,.int .u8 0,.int .u8 0,.int .u8 0,.int .u8 0,.int .u8 0,.int .u8 0,.int .u8 0]:Array Value)=bysA z64:=rfl
theorem info64b (l:List UInt8) (h:l.length=64):(Tryz.prog.info? 51).map (·.size)=some (bysA l).size:=by rw [bysA_size,h]; kernel_rfl
structure Gat (w:World) (q:Option Addr) (n c:Nat) (X:List UInt8) (wr:World):Prop where
 own:Ow wr (w.heap.size+1) 5 1 (.slice q n c) n (bys X)
 row:wr.heap[w.heap.size]? = some (.cells (bysA z64) 51 (0,0))
 be:Below w.heap.size w wr
theorem Gat.lt {w wr:World} {q:Option Addr} {n c:Nat} {X:List UInt8} (h:Gat w q n c X wr):w.heap.size<wr.heap.size:=lt_of_heap h.row
theorem Gat.len {w wr:World} {q:Option Addr} {n c:Nat} {X:List UInt8} (h:Gat w q n c X wr):X.length=n:=by
 have:=h.own.1
 rw [bys_length] at this
 omega
theorem Gat.on {w wr w':World} {q q':Option Addr} {n n' c c':Nat} {X Y:List UInt8} (h:Gat w q n c X wr) (ho:Ow w' (w.heap.size+1) 5 1 (.slice q' n' c') n' (bys Y)) (hg:wr.grownBy w' (Value.slice q n c).ownBlock):Gat w q' n' c' Y w':=by
 refine ⟨ho,?_,h.be.trans (below_of_grown hg (Nat.le_of_lt h.lt) (fun k hk=>by have:=(h.own.lt k hk).1; omega))⟩
 refine (hg.block _ h.lt (fun e => ?_)).trans h.row
 have:=(h.own.lt _ e.symm).1
 omega
theorem Gat.app {w wr:World} {q:Option Addr} {n c m:Nat} {X Y:List UInt8} (h:Gat w q n c X wr) {x:Value} (hY:Rd wr 1 x m (bys Y)) (hn:n+m≤90001000) : ∃ q' c' w',(Builtin.append_ #[31,31] 31 #[.slice q n c,x]).run Tryz.prog wr = .ok (.slice q' (n+m) c') w'∧Gat w q' (n+m) c' (X++Y) w':=by
 obtain ⟨i0,hi,hz0,hz1,hz2⟩:=info_parts info1
 obtain ⟨v',w',hr,h1,h2⟩:=run_app_ow (P:=Tryz.prog) (ty:=31) Tryz.underlying31 hi hz0 hz1 hz2 rfl h.own (hY.src (t:=31) Tryz.underlying31 (bys_one Y)) (by unfold maxLen; omega) (by omega) h.lt
 obtain ⟨q',c',rfl⟩:=Ow_form h1
 rw [← bys_append] at h1
 exact ⟨q',c',w',hr,h.on h1 h2⟩
theorem Gat.byte {w wr:World} {q:Option Addr} {n c:Nat} {X:List UInt8} (h:Gat w q n c X wr) (b:UInt8) (hn:n≤90000900) : ∃ q' c' w',(Builtin.append_ #[31,31] 31 #[.slice q n c,.slice (some ⟨wr.heap.size,0,none⟩) 1 1]).run Tryz.prog (wr.alloc (.cells #[.int .u8 (b.toNat:Int)] 5)) = .ok (.slice q' (n+1) c') w'∧Gat w q' (n+1) c' (X ++ [b]) w':=by
 have h2:Gat w q n c X (wr.alloc (.cells #[.int .u8 (b.toNat:Int)] 5)):=⟨h.own.alloc _,(Rg.heap_alloc_past _ _ _ h.lt).trans h.row,h.be.alloc (Nat.le_of_lt h.lt) _⟩
 exact h2.app (Y := [b]) (Rd_lit wr #[.int .u8 (b.toNat:Int)] 5 1 1 rfl (by decide)) (by omega)
theorem bys_rep (m:Nat):bys (List.replicate m (0:UInt8))=List.replicate m (.int .u8 0):=by simp [bys]
theorem Gat.noughts {w wr:World} {q:Option Addr} {n c:Nat} {X:List UInt8} (h:Gat w q n c X wr) (m:Nat) (hn:n+m≤90001000) : ∃ q' c' w',(Builtin.append_ #[31,3] 31 #[.slice q n c,.int .i64 (m:Int)]).run Tryz.prog wr = .ok (.slice q' (n+m) c') w'∧Gat w q' (n+m) c' (X++List.replicate m 0) w':=by
 obtain ⟨i0,hi,hz0,hz1,hz2⟩:=info_parts info1
 have hsrc:=Src.ofString (P:=Tryz.prog) wr Tryz.underlying9 (Apm.nul m)
 rw [Apm.nul_size,Apm.byteCells_nul] at hsrc
 obtain ⟨v',w',hr,h1,h2⟩:=run_app_ow (P:=Tryz.prog) (ty:=31) Tryz.underlying31 hi hz0 hz1 hz2 rfl h.own hsrc (by unfold maxLen; omega) (by omega) h.lt
 obtain ⟨q',c',rfl⟩:=Ow_form h1
 have hold : ∃ olds:Array Value,(Builtin.firstCells 1 n (.slice q n c)).run Tryz.prog wr.drew = .ok olds wr.drew:=by
  have hrd:=Rd.of_ow h.own
  rcases hrd.2 with ⟨hv,h0⟩ | ⟨b,off,cap',hv,_,_,_,hc⟩
  ·rw [hv]
   rw [h0]
   exact ⟨_,run_firstCells_none wr.drew 1 0 0 0⟩
  ·rw [hv]
   exact ⟨_,run_firstCells_some wr.drew 1 n ⟨b,off,none⟩ n cap' (bys X) h.own.1 (fun j u hu=>by rw [addr_add]; exact hc j u hu)⟩
 obtain ⟨olds,hold⟩:=hold
 rw [← Apm.run_app_make (e:=5) (k := .i64) (i:=i0) Tryz.underlying31 Tryz.underlying3 Tryz.underlying9 hi hz0 hz1 hz2 q n c m (by omega) olds hold] at hr
 have e:bys X++List.replicate m (.int .u8 0)=bys (X++List.replicate m 0):=by rw [bys_append,bys_rep]
 rw [e] at h1
 exact ⟨q',c',w',hr,h.on h1 h2⟩
theorem l_val {P:Program} {Q:Exit→Act→World→Prop} {ops:Array Oper} {a:Act} {w w':World} {o:Oper} {rest:List Oper} {v:Value} (hg:o.guard=none) (hr:(execOp a.eval o).run P w = .ok (.value v) w') (h:wpList P ops Q rest (a.put o.dst v) w'):wpList P ops Q (o::rest) a w:=by
 refine wpList_plain hg fun K' hK' => ?_
 unfold Oper.wp
 rw [hr]
 exact hK' _ _ h
theorem Rd_cut {x:World} {b off o' n c k:Nat} {l:List UInt8} (h:Rd x 1 (.slice (some ⟨b,off,none⟩) n c) n (bys l)) (hk:k≤n) (ho:k<n→o'=off+k):Rd x 1 (.slice (some ⟨b,o',none⟩) (n-k) (c-k)) (n-k) (bys (l.drop k)):=by
 have hd:=Rd_drop h hk
 rcases Nat.lt_or_ge k n with h1 | h1
 · rw [ho h1]; exact hd
 ·obtain rfl:k=n:=by omega
  have hl:(bys (l.drop k)).length=0:=by have:=hd.1; omega
  refine ⟨by rw [hl]; omega,?_⟩
  rcases hd.2 with ⟨hv,_⟩ | ⟨b',off',cap,hv,hb,hnc,hcm,hc⟩
  · cases hv
  ·cases hv
   exact .inr ⟨b,o',c-k,rfl,hb,hnc,hcm,fun j u hu=>by rw [List.eq_nil_of_length_eq_zero hl] at hu; cases hu⟩
structure Prs (w:World) (P:List UInt8) (G k:Nat) (q:Option Addr) (n c:Nat) (wr:World):Prop where
 rd:Rd wr 1 (.slice q n c) n (bys (P.drop (128*k)))
 ne:(Value.slice q n c).ownBlock≠some G
 rg:wr.heap[G]? = some (.cells (cells (pressN k HH P)) 223 (0,0))
 row:wr.heap[w.heap.size]? = some (.cells (bysA z64) 51 (0,0))
 be:Below w.heap.size w wr
 gt:w.heap.size<G
def outj (H:List W64) (i j:Nat):List UInt8:=outb (H.take i)++eight (rd H i) j++List.replicate (64-(8*i+j)) 0
theorem eight_succ (x:W64) (k:Nat):eight x (k+1)=eight x k ++ [by8 (x >>> (8*(7-k)))]:=by unfold eight; rw [List.range_succ,List.map_append]; rfl
theorem outj_length {H:List W64} (hH:H.length=8) {i j:Nat} (hi:i≤8) (hj:8*i+j≤64):(outj H i j).length=64:=by
 unfold outj
 rw [List.length_append,List.length_append,outb_length,List.length_take,eight_length,List.length_replicate]
 omega
set_option maxRecDepth 10000 in
theorem outj_set {H:List W64} (hH:H.length=8) {i j:Nat} (hi:i<8) (hj:j<8):(outj H i j).set (8*i+j) (by8 (rd H i >>> (8*(7-j))))=outj H i (j+1):=by
 have h1:(outb (H.take i)++eight (rd H i) j).length=8*i+j:=by rw [List.length_append,outb_length,List.length_take,eight_length]; omega
 unfold outj
 rw [List.set_append,if_neg (by omega),h1,Nat.sub_self,show 64-(8*i+j)=(64-(8*i+(j+1)))+1 by omega,List.replicate_succ,List.set_cons_zero,eight_succ]
 simp
theorem outj_next {H:List W64} (hH:H.length=8) {i:Nat} (hi:i<8):outj H i 8=outj H (i+1) 0:=by
 have ht:H.take (i+1)=H.take i ++ [rd H i]:=by
  rw [List.take_succ_eq_append_getElem (by omega)]; simp [rd,List.getD,hH,hi]
 have e:outb [rd H i]=eight (rd H i) 8:=by unfold outb; simp
 unfold outj
 rw [ht,outb_append,e,show eight (rd H (i+1)) 0 = [] from rfl,List.append_nil,show 64-(8*i+8)=64-(8*(i+1)+0) by omega]
theorem outj_zero (H:List W64):outj H 0 0=z64:=by simp [outj,outb,eight,z64]
theorem outj_full {H:List W64} (hH:H.length=8):outj H 8 0=outb H:=by
 unfold outj; rw [List.take_of_length_le (by omega)]; simp [eight]
@[go_sem] theorem n64_by8 (a:W64):n64 a%(256:Int)=((by8 a).toNat:Int):=by
 unfold n64 by8; rw [UInt8.toNat_ofNat']; omega
@[go_sem] theorem n64_by8w (a:W64):IntKind.u8.wrap (n64 a)=((by8 a).toNat:Int):=by
 rw [IntKind.wrap_u8]; exact n64_by8 a
theorem bysA_set (l:List UInt8) (k:Nat) (b:UInt8):(bysA l).setIfInBounds k (.int .u8 (b.toNat:Int))=bysA (l.set k b):=by
 simp [bysA,bys]
theorem bysA_get (l:List UInt8) (k:Nat) (h:k<l.length):(bysA l)[k]? = some (.int .u8 ((bt l k).toNat:Int)):=by
 unfold bysA bt
 simp [bys,List.getD,h]
theorem run_idx5 (H:List W64) (hH:H.length=8) (i:Nat) (hi:i<8) (w:World) :
 (Instr.index 223 (.agg (cells H)) (.int .i64 (i:Int))).run Tryz.prog w = .ok (.int .u64 (n64 (rd H i))) w:=by
 have hg:=cells_get H i (by omega)
 obtain ⟨i0,h1,h2⟩ : ∃ i0,Tryz.prog.info? 23=some i0∧i0.size=1:=by
  have:(Tryz.prog.info? 23).map (·.size)=some 1:=by kernel_rfl
  obtain ⟨i0,h1,h2⟩:=Option.map_eq_some_iff.1 this
  exact ⟨i0,h1,h2⟩
 simp [Instr.index,asIntOf,Sem.run_bind,run_underlying Tryz.underlying223,run_underlying Tryz.underlying23,sizeOf,typeInfo,h1,h2,part,isAgg,hg]
 intro h; omega
set_option maxRecDepth 100000 in
set_option maxHeartbeats 2000000 in
theorem sum_any (q:Option Addr) (c:Nat) (L:List (List UInt8)) (w:World) (hT:Tabs w) (hp:Parts w (.slice q L.length c) L) (hsz:L.flatten.length≤90000000) :
 Calls Tryz.prog 84 #[.slice q L.length c] w fun e w'=>e = .returned (.agg (bysA (sum L.flatten)))∧Below w.heap.size w w':=by
 have hL:L.length≤9223372036854775807:=by
  obtain ⟨vs,h1,_⟩:=hp
  rcases h1.2 with ⟨_,h0⟩ | ⟨_,_,cap,_,_,hnc,hcm,_⟩
  · omega
  · unfold maxLen at hcm; omega
 obtain ⟨wa,hwa⟩ : ∃ wa,wa=w.alloc (.cells (bysA z64) 51):=⟨_,rfl⟩
 have HG0:Hid (Gat w none 0 0 (L.take 0).flatten wa):=Lib.hid ⟨by rw [List.take_zero]; exact Ow.nil _ _ _ _,by rw [hwa]; exact Rg.heap_alloc_at _ _ _ rfl,by rw [hwa]; exact (Below.refl _ _).alloc (Nat.le_refl _) _⟩
 have HWA:=Lib.hid hwa
 have HP:=Lib.hid hp
 have HT:=Lib.hid hT
 have HSZ:=Lib.hid hsz
 clear hwa hp hT hsz
 go_enter Tryz.func84,Tryz.ntmps84
 go_upto_region 1 with fail
 rw [z64_arr,← HWA.out]
 go_wp2_with fail
 go_loopw [3,15] (fun bv kv wr => ∃ (k:Nat) (q:Option Addr) (n c:Nat),k≤L.length∧kv = .int .i64 k∧bv = .slice q n c∧Hid (Gat w q n c (L.take k).flatten wr)) (fun _ kv _=>L.length-(intOf kv).toNat)
 case atStart=>exact ⟨0,none,0,0,Nat.zero_le _,rfl,rfl,HG0⟩
 case round =>
  obtain ⟨k,q1,n,c1,hk,rfl,rfl,HG⟩:=hrel
  clear HG0
  by_cases hlt:k<L.length
  ·obtain ⟨vs,hv0,hv2⟩:=HP.out
   have hv1:=hv0.below HG.out.be
   obtain ⟨b,off,rfl,hbl,hnc,hcm,hcell⟩:=Rd_lt hv1 (by omega)
   obtain ⟨qk,ck,hvk,hrdk0⟩:=hv2 k hlt
   have hck:=hcell k _ hvk
   have hrdk:=hrdk0.below HG.out.be
   have hlen:=flatten_take_le L k hlt
   have hfs:=flatten_take_succ L k hlt
   have hsz:=HSZ.out
   obtain ⟨Y,hY⟩ : ∃ Y,Y=L.getD k []:=⟨_,rfl⟩
   rw [← hY] at hck hrdk hlen hfs
   rw [HG.out.len] at hlen
   obtain ⟨m,hm⟩ : ∃ m,m=Y.length:=⟨_,rfl⟩
   rw [← hm] at hck hrdk hlen
   obtain ⟨q2,c2,w2,hr,hg⟩:=HG.out.app hrdk (by omega)
   rw [← hfs] at hg
   have HG2:Hid (Gat w q2 (n+m) c2 (L.take (k+1)).flatten w2):=Lib.hid hg
   have HR:=Lib.hid hr
   have hltI:(k:Int)<(L.length:Int):=by omega
   clear hv0 hv1 hv2 hcell hvk hrdk0 hrdk hr hg hfs hlen hY hm hsz
   go_wp2_with (at_builtin; refine l_val rfl (v := .slice q2 (n+m) c2) (w':=w2) (by simp [execOp,resolve,invoke,builtin,Act.eval,HR.out]) ?_)
   exact ⟨⟨k+1,q2,n+m,c2,by omega,by go_num,rfl,HG2⟩,by simp [intOf]; omega⟩
  ·obtain rfl:k=L.length:=by omega
   rw [List.take_of_length_le (Nat.le_refl _)] at HG
   obtain ⟨X,hXX⟩ : ∃ X,X=L.flatten:=⟨_,rfl⟩
   rw [← hXX] at HG HSZ
   have HXX:=Lib.hid hXX
   have hn9:n≤90000000:=by rw [← HG.out.len]; exact HSZ.out
   have hw1:IntKind.u64.wrap (n:Int)=(n:Int):=by rw [IntKind.wrap_u64]; omega
   have hw2:IntKind.u64.wrap ((n:Int)*8)=((8*n:Nat):Int):=by rw [IntKind.wrap_u64]; omega
   obtain ⟨q2,c2,w2,hr,hg⟩:=HG.out.byte 128 (by omega)
   have HG2:Hid (Gat w q2 (n+1) c2 (padz X 0) w2):=Lib.hid hg
   have HR:Hid ((Builtin.append_ #[31,31] 31 #[.slice q1 n c1,.slice (some ⟨wr.heap.size,0,none⟩) 1 1]).run Tryz.prog (wr.alloc (.cells #[.int .u8 128] 5)) = .ok (.slice q2 (n+1) c2) w2):=Lib.hid hr
   have HXN:=Lib.hid HG.out.len
   have hltI : ¬ (L.length:Int)<(L.length:Int):=by omega
   clear hr hg hXX HG HP
   go_wp2_with (at_builtin; refine l_val rfl (v := .slice q2 (n+1) c2) (w':=w2) (by simp [execOp,resolve,invoke,builtin,Act.eval,HR.out]) ?_)
   clear HR hw1 hw2 hltI hL hk hlt
   obtain ⟨e8,he8⟩ : ∃ e8:Nat,e8=8*n:=⟨_,rfl⟩
   rw [show 8*(n:Int)=(e8:Int) by omega]
   have HE8:=Lib.hid he8
   clear he8
   go_loopw [3] (fun bv wr => ∃ (j m:Nat) (q:Option Addr) (c:Nat),bv = .slice q m c∧Hid (m=n+1+j∧j≤zc n)∧Hid (Gat w q m c (padz X j) wr)) (fun bv _=>90000900-Sha.sliceLen bv)
   case atStart=>exact ⟨0,n+1,q2,c2,rfl,Lib.hid ⟨rfl,Nat.zero_le _⟩,HG2⟩
   case round =>
    obtain ⟨j,m,q,c,rfl,HM,HG⟩:=hrel
    clear HG2
    have hzs:=zc_spec n
    have hzl:=zc_le n
    have hzf:=zc_first n j
    have hmj:=HM.out
    by_cases hm2:m%128=112
    ·have hjz:j=zc n:=by have:=hzf (by omega); omega
     have h56:((m:Int)%128==112)=true:=by rw [beq_iff_eq]; omega
     have h56':((m:Int)%128 != 112)=false:=by rw [bne_eq_false_iff_eq]; omega
     obtain ⟨q3,c3,w3,hr,hg⟩:=HG.out.noughts 8 (by omega)
     obtain ⟨M,hM⟩ : ∃ M,M=m+8:=⟨_,rfl⟩
     obtain ⟨R,hR⟩ : ∃ R,R=padz X (zc n)++List.replicate 8 0:=⟨_,rfl⟩
     rw [hjz,← hR,← hM] at hg
     rw [← hM] at hr
     replace hr:(Builtin.append_ #[31,3] 31 #[.slice q m c,.int .i64 8]).run Tryz.prog wr = .ok (.slice q3 M c3) w3:=hr
     have HR:=Lib.hid hr
     have HG3:=Lib.hid hg
     have HMM:Hid (M=n+9+zc n∧M%128=120∧M≤90000200):=Lib.hid (by omega)
     have HRR:=Lib.hid hR
     clear hr hg hM hR hjz hmj hzs hzl hzf HM HG hm2
     go_wp2_with (at_builtin; refine l_val rfl (v := .slice q3 M c3) (w':=w3) (by simp [execOp,resolve,invoke,builtin,Act.eval,HR.out]) ?_)
     clear HR h56 h56'
     obtain ⟨wv,hwv⟩ : ∃ wv,wv=w3:=⟨_,rfl⟩
     go_loopw [3,7] (fun bv kv wr => ∃ (i:Nat) (q:Option Addr) (c:Nat),i≤8∧kv = .int .i64 (7-(i:Int))∧bv = .slice q (M+i) c∧Hid (Gat w q (M+i) c (R++be (8*n) i) wr)) (fun _ kv _=>(intOf kv+1).toNat)
     case atStart=>exact ⟨0,q3,c3,by omega,rfl,rfl,Lib.hid (by rw [show be (8*n) 0 = [] from rfl,List.append_nil]; exact HG3.out)⟩
     case round =>
      obtain ⟨i,q,c,hi,rfl,rfl,HG⟩:=hrel
      clear HG3 hwv
      by_cases hi8:i<8
      ·have hge:(0:Int)≤7-(i:Int):=by omega
       have hge2:(0:Int)≤8*(7-(i:Int)):=by omega
       have htn:(8*(7-(i:Int))).toNat=8*(7-i):=by omega
       have hwr:IntKind.i64.wrap (8*(7-(i:Int)))=8*(7-(i:Int)):=by rw [IntKind.wrap_i64]; omega
       obtain ⟨bq,hbq⟩ : ∃ bq,bq=UInt8.ofNat (8*n / 2^(8*(7-i))):=⟨_,rfl⟩
       have hb8:IntKind.u8.wrap ((e8:Int) / 2^(8*(7-i)))=(bq.toNat:Int):=by
        rw [hbq,UInt8.toNat_ofNat',HE8.out,IntKind.wrap_u8]; simp
       obtain ⟨q4,c4,w4,hr,hg⟩:=HG.out.byte bq (by have:=HMM.out; omega)
       rw [List.append_assoc,show be (8*n) i ++ [bq]=be (8*n) (i+1) by rw [be_succ,hbq]] at hg
       have HG4:Hid (Gat w q4 (M+(i+1)) c4 (R++be (8*n) (i+1)) w4):=Lib.hid hg
       have HR:=Lib.hid hr
       clear hr hg hbq HG
       go_wp2_with (at_builtin; refine l_val rfl (v := .slice q4 (M+i+1) c4) (w':=w4) (by simp [execOp,resolve,invoke,builtin,Act.eval,HR.out]) ?_)
       exact ⟨⟨i+1,q4,c4,by omega,by congr 1; omega,rfl,HG4⟩,by simp [intOf]; omega⟩
      ·have hge : ¬ (0:Int)≤7-(i:Int):=by omega
       obtain rfl:i=8:=by omega
       rw [show (7-((8:Nat):Int)) = -1 from rfl]
       obtain ⟨P,hP⟩ : ∃ P,P=R++be (8*n) 8:=⟨_,rfl⟩
       rw [← hP] at HG
       have hPP:P=pad X:=by rw [hP,HRR.out]; unfold pad; rw [HXN.out]
       have HPP:=Lib.hid hPP
       obtain ⟨N,hN⟩ : ∃ N,N=M+8:=⟨_,rfl⟩
       rw [← hN] at HG ⊢
       have HN:Hid (N%128=0∧N≤90000300∧P.length=N):=Lib.hid (by have h1:=HMM.out; have h2:=HG.out.len; omega)
       obtain ⟨t0,f0,hrow0⟩:=(HT.out.below HG.out.be).start
       have HROW0:=Lib.hid hrow0
       have HI8:Hid ((Tryz.prog.info? 223).map (·.size)=some (cells HH).size):=Lib.hid (by rw [cells_size,HH_length]; exact info8)
       have HZ8:Hid ((#[Value.int .u64 0,.int .u64 0,.int .u64 0,.int .u64 0,.int .u64 0,.int .u64 0,.int .u64 0,.int .u64 0]:Array Value).size=(cells HH).size):=Lib.hid (by rw [cells_size,HH_length]; rfl)
       obtain ⟨wv,hwv⟩ : ∃ wv,wv=wr.alloc (.cells (cells HH) 223):=⟨_,rfl⟩
       obtain ⟨G,hG⟩ : ∃ G,G=wr.heap.size:=⟨_,rfl⟩
       have hb0:Below wr.heap.size wr wv:=by rw [hwv]; exact (Below.refl _ _).alloc (Nat.le_refl _) _
       have HPR:Hid (Prs w P G 0 q N c wv):=Lib.hid ⟨by rw [Nat.mul_zero,List.drop_zero]; exact (Rd.of_ow HG.out.own).below hb0,fun e=>by have:=(HG.out.own.lt _ e).2; omega,by rw [hwv,hG]; exact Rg.heap_alloc_at _ _ _ rfl,Rp.row_le hb0 HG.out.row,HG.out.be.trans (hb0.mono (Nat.le_of_lt HG.out.lt)),by rw [hG]; exact HG.out.lt⟩
       have HWV:=Lib.hid hwv
       clear hrow0 hi hi8 hP hPP hN hwv hb0 HG HMM HRR HXN HE8
       go_wp2_with (first | (refine wpList_load_row rfl 223 _ rfl 3 rfl t0 (cells HH) f0 _ HROW0.out Tryz.underlying223 rfl HI8.out ?_) | (refine Rg.store_row_new rfl 223 _ _ rfl wr.heap.size rfl rfl 223 _ (cells HH) rfl HI8.out HZ8.out (cells_one _) ?_))
       rw [← HWV.out,← hG]
       clear HROW0 HI8 HZ8 HWV hG hge
       go_loopw [3] (fun bv wr => ∃ (k len:Nat) (q:Option Addr) (c:Nat),bv = .slice q len c∧Hid (128*k+len=N)∧Hid (Prs w P G k q len c wr)) (fun bv _=>Sha.sliceLen bv)
       case atStart=>exact ⟨0,N,q,c,rfl,Lib.hid (by omega),HPR⟩
       case round =>
        obtain ⟨k,len,q,c,rfl,HK,HQ⟩:=hrel
        clear HPR
        obtain ⟨H,hH⟩ : ∃ H,H=pressN k HH P:=⟨_,rfl⟩
        have hHl:H.length=8:=by rw [hH,pressN_length,HH_length]
        have hrg:=HQ.out.rg
        rw [← hH] at hrg
        have HRG:=Lib.hid hrg
        have HHL:=Lib.hid hHl
        have HIH:Hid ((Tryz.prog.info? 223).map (·.size)=some (cells H).size):=Lib.hid (by rw [cells_size,hHl]; exact info8)
        by_cases hl:len=0
        ·have hltI : ¬ (0:Int)<(len:Int):=by omega
         have hkN:(pad X).length / 128=k:=by have h1:=HK.out; have h2:=HN.out; rw [← HPP.out]; omega
         have HS:Hid (sum L.flatten=outb H):=Lib.hid (by rw [← HXX.out]; unfold sum; rw [hkN,← HPP.out,hH])
         have HBE:=Lib.hid HQ.out.be
         have HROW:=Lib.hid HQ.out.row
         have hGw:=HQ.out.gt
         have hGlt:G<wr.heap.size:=lt_of_heap hrg
         have hwlt:w.heap.size<wr.heap.size:=by omega
         have HLD:Hid (∀ o:Obj,(wr.alloc o).heap[G]? = some (.cells (cells H) 223 (0,0))):=Lib.hid (fun o=>(Rg.heap_alloc_past _ _ _ hGlt).trans hrg)
         clear hH hHl hrg hkN HK HQ HPP HN hGw hGlt
         go_upto_region 21 with fail
         rw [z64_arr,← outj_zero H]
         go_wp2_with (refine wpList_load_row rfl 223 _ rfl G rfl 223 (cells H) (0,0) _ (HLD.out _) Tryz.underlying223 rfl HIH.out ?_)
         clear HLD HRG
         go_loopw [61] (fun iv w' => ∃ i:Nat,i≤8∧iv = .int .i64 i∧w'=wr.alloc (.cells (bysA (outj H i 0)) 51)) (fun iv _=>8-(intOf iv).toNat)
         case atStart=>exact ⟨0,by omega,rfl,rfl⟩
         case round =>
          obtain ⟨i,hi,rfl,rfl⟩:=hrel
          by_cases hi8:i<8
          ·have hiI:(i:Int)<8:=by omega
           have HIX:=Lib.hid (fun w=>run_idx5 H HHL.out i hi8 w)
           go_wp2_with fail
           rw [HIX.out]
           go_wp2_with fail
           go_loopw [65] (fun jv w' => ∃ j:Nat,j≤8∧jv = .int .i64 j∧w'=wr.alloc (.cells (bysA (outj H i j)) 51)) (fun jv _=>8-(intOf jv).toNat)
           case atStart=>exact ⟨0,by omega,rfl,rfl⟩
           case round =>
            obtain ⟨j,hj,rfl,rfl⟩:=hrel
            by_cases hj8:j<8
            ·have hjI:(j:Int)<8:=by omega
             have q1:IntKind.i64.wrap (8*(i:Int))=8*(i:Int):=by rw [IntKind.wrap_i64]; omega
             have q2:IntKind.i64.wrap (8*(i:Int)+(j:Int))=8*(i:Int)+(j:Int):=by rw [IntKind.wrap_i64]; omega
             have q3:(0:Int)≤8*(i:Int)+(j:Int):=by omega
             have q4:8*(i:Int)+(j:Int)<64:=by omega
             have q5:(8*(i:Int)+(j:Int)).toNat=8*i+j:=by omega
             have q6:IntKind.i64.wrap (7-(j:Int))=7-(j:Int):=by rw [IntKind.wrap_i64]; omega
             have q7:IntKind.i64.wrap (8*(7-(j:Int)))=8*(7-(j:Int)):=by rw [IntKind.wrap_i64]; omega
             have q8:(0:Int)≤8*(7-(j:Int)):=by omega
             have q9:(8*(7-(j:Int))).toNat=8*(7-j):=by omega
             have hset:=outj_set HHL.out hi8 hj8
             have hlen:=outj_length HHL.out hi (show 8*i+j≤64 by omega)
             obtain ⟨O,hO⟩ : ∃ O,O=outj H i j:=⟨_,rfl⟩
             rw [← hO] at hset hlen ⊢
             have hget:=bysA_get O (8*i+j) (by omega)
             have HSET:=Lib.hid hset
             clear hset hlen hO
             go_wp2_with fail
             exact ⟨⟨j+1,by omega,by go_num,by rw [bysA_set,HSET.out]⟩,by simp [intOf]; omega⟩
            ·have hjI : ¬ (j:Int)<8:=by omega
             obtain rfl:j=8:=by omega
             have HNX:=Lib.hid (outj_next HHL.out hi8)
             go_wp2_with fail
             exact ⟨⟨i+1,by omega,by go_num,by rw [HNX.out]⟩,by simp [intOf]; omega⟩
          ·have hiI : ¬ (i:Int)<8:=by omega
           obtain rfl:i=8:=by omega
           have hlen:=outj_length HHL.out hi (show 8*8+0≤64 by omega)
           obtain ⟨O,hO⟩ : ∃ O,O=outj H 8 0:=⟨_,rfl⟩
           have hOe:O=sum L.flatten:=by rw [hO,outj_full HHL.out,HS.out]
           rw [← hO] at hlen ⊢
           have HOE:=Lib.hid hOe
           have HIO:=Lib.hid (info64b O hlen)
           have HZO:Hid ((bysA z64).size=(bysA O).size):=Lib.hid (by rw [bysA_size,bysA_size,hlen]; rfl)
           have HRW:Hid ((wr.alloc (.cells (bysA O) 51)).heap[w.heap.size]? = some (.cells (bysA z64) 51 (0,0))):=Lib.hid ((Rg.heap_alloc_past _ _ _ hwlt).trans HROW.out)
           clear hlen hO hOe
           go_wp2_with (first | (refine wpList_load_row rfl 51 _ rfl wr.heap.size rfl 51 (bysA O) (0,0) _ (by exact Rg.heap_alloc_at _ _ _ rfl) Tryz.underlying51 rfl HIO.out ?_) | (refine Rg.store_row rfl 51 _ _ rfl w.heap.size rfl 51 (bysA z64) (bysA O) rfl HRW.out HIO.out HZO.out (bysA_one _) ?_))
           refine bodyPost_ret (v := .agg (bysA O)) (results_cell_row (P:=Tryz.prog) rfl _ _ w.heap.size 51 (bysA O) (0,0) _ rfl (setRow_heap _ _ _ _ 51 _ HRW.out) Tryz.underlying51 rfl HIO.out) rfl ⟨by rw [HOE.out],?_⟩
           exact Rg.below_setRow (HBE.out.alloc (Nat.le_of_lt hwlt) _) (Nat.le_refl _) _
        ·have hN:=HN.out
         have hK:=HK.out
         have hltI:(0:Int)<(len:Int):=by omega
         have hrd:=HQ.out.rd
         obtain ⟨b,off,rfl,hbl,hnc,hcm,hcell⟩:=Rd_lt hrd (by omega)
         obtain ⟨D,hD⟩ : ∃ D,D=P.drop (128*k):=⟨_,rfl⟩
         have hDl:D.length=len:=by rw [hD,List.length_drop]; omega
         have hcells : ∀ j,j<len→wr.cell? ⟨b,off+j,none⟩=some (.int .u8 ((bt D j).toNat:Int)):=fun j hj=>hcell j _ (by rw [← hD]; exact bys_get D j (by omega))
         have hcm2:c≤9223372036854775807:=by unfold maxLen at hcm; exact hcm
         have HCALL:=Lib.hid (press_any H D b off len c wr HHL.out (HT.out.below HQ.out.be) (by omega) hDl hnc hcm2 hcells)
         have hps:press H D=pressN (k+1) HH P:=by rw [pressN_succ,← hH,hD]
         obtain ⟨H2,hH2⟩ : ∃ H2,H2=press H D:=⟨_,rfl⟩
         rw [← hH2] at HCALL hps
         have hH2l:H2.length=8:=by rw [hps,pressN_length,HH_length]
         have HI2:Hid ((Tryz.prog.info? 223).map (·.size)=some (cells H2).size):=Lib.hid (by rw [cells_size,hH2l]; exact info8)
         have HS2:Hid ((cells H).size=(cells H2).size):=Lib.hid (by rw [cells_size,cells_size,hH2l,hHl])
         obtain ⟨o',hcut,ho'⟩:=Ab.sl_low b off len c 128 (by omega) hnc
         replace hcut : ∀ w:World,(Instr.sliceAt 31 (.slice (some ⟨b,off,none⟩) len c) (some (.int .i64 128)) none none).run Tryz.prog w = .ok (.slice (some ⟨b,o',none⟩) (len-128) (c-128)) w:=hcut
         have HPS:=Lib.hid hps
         have HCUT:Hid (∀ x,Rd x 1 (.slice (some ⟨b,off,none⟩) len c) len (bys (P.drop (128*k)))→Rd x 1 (.slice (some ⟨b,o',none⟩) (len-128) (c-128)) (len-128) (bys (P.drop (128*(k+1))))):=Lib.hid (fun x hx=>by
          have:=Rd_cut hx (show 128≤len by omega) ho'
          rwa [List.drop_drop,show 128*k+128=128*(k+1) by omega] at this)
         have hne:b≠G:=fun e=>HQ.out.ne (by rw [e]; rfl)
         have HNE:=Lib.hid hne
         have HK2:Hid (128*(k+1)+(len-128)=N∧len-128<len):=Lib.hid (by omega)
         clear hN hK hrd hcell hD hDl hcells hcm hcm2 hps hH2 hH2l ho' hne hH hHl hrg HK hbl hnc hl
         go_wp2_with (refine wpList_load_row rfl 223 _ rfl G rfl 223 (cells H) (0,0) _ HRG.out Tryz.underlying223 rfl HIH.out ?_)
         refine HCALL.out.mono ?_
         rintro e w2 ⟨rfl,hb⟩
         have HR2:=Lib.hid (Rp.row_le hb HRG.out)
         have hb2:Below w.heap.size w (w2.setRow G (cells H2)):=Rg.below_setRow (HQ.out.be.trans (hb.mono HQ.out.be.size)) (Nat.le_of_lt HQ.out.gt) _
         have HQ2:Hid (Prs w P G (k+1) (some ⟨b,o',none⟩) (len-128) (c-128) (w2.setRow G (cells H2))):=Lib.hid ⟨HCUT.out _ ((HQ.out.rd.below hb).kept (Sha.grown_setRow _ G _) (.inr (by simpa [Value.ownBlock] using HNE.out))),by simpa [Value.ownBlock] using HNE.out,by rw [← HPS.out]; exact setRow_heap _ _ _ _ _ _ HR2.out,(setRow_other _ _ _ _ (by have:=HQ.out.gt; omega)).trans (Rp.row_le hb HQ.out.row),hb2,HQ.out.gt⟩
         clear hb hb2 HCUT HCALL HQ HRG
         go_wp2_with (refine Rg.store_row rfl 223 _ _ rfl G rfl 223 (cells H) (cells H2) rfl HR2.out HI2.out HS2.out (cells_one _) ?_)
         exact ⟨⟨k+1,_,_,_,rfl,Lib.hid HK2.out.1,HQ2⟩,HK2.out.2⟩
    ·have hjz:j<zc n:=by
      rcases Nat.lt_or_ge j (zc n) with h | h
      · exact h
      · exact absurd (show m%128=112 by rw [hmj.1,show j=zc n by omega]; exact hzs) hm2
     have h56:((m:Int)%128==112)=false:=by rw [beq_eq_false_iff_ne]; omega
     have h56':((m:Int)%128 != 112)=true:=by rw [bne_iff_ne]; omega
     obtain ⟨q3,c3,w3,hr,hg⟩:=HG.out.byte 0 (by omega)
     rw [← padz_succ] at hg
     have HG3:=Lib.hid hg
     have HR:Hid ((Builtin.append_ #[31,31] 31 #[.slice q m c,.slice (some ⟨wr.heap.size,0,none⟩) 1 1]).run Tryz.prog (wr.alloc (.cells #[.int .u8 0] 5)) = .ok (.slice q3 (m+1) c3) w3):=Lib.hid hr
     have HM3:Hid (m+1=n+1+(j+1)∧j+1≤zc n):=Lib.hid (by omega)
     have hme:90000900-(m+1)<90000900-m:=by omega
     have HME:=Lib.hid hme
     clear hr hg hjz hmj hzs hzl hzf HM HG hm2 hme
     go_wp2_with (at_builtin; refine l_val rfl (v := .slice q3 (m+1) c3) (w':=w3) (by simp [execOp,resolve,invoke,builtin,Act.eval,HR.out]) ?_)
     exact ⟨⟨j+1,m+1,q3,c3,rfl,HM3,HG3⟩,HME.out⟩
end S5
end Go.Proofs.YtfodadedkilgdaaGreatDoor
namespace Go.Proofs.YtfodadedkilgdaaGreatDoor
set_option linter.unusedVariables false
set_option linter.unusedSimpArgs false
open Go.RowKit Bits Mem Sha
namespace Vr
open Fld hiding SubAt SubAt.start sub_any infoE
open Sca (sn Q OT sn_size infoSn sn_one sn_zero Q_pos Q_W4)
open Ed (FP fpow)
abbrev A2:=FP×FP
def addA (a b:A2):A2:=(sumX a.1 a.2 b.1 b.2,sumY a.1 a.2 b.1 b.2)
def dblA (a:A2):A2:=addA a a
def mulA (a:A2) (l:List UInt8):A2:=tmsA a.1 a.2 l 256 256
def eightA (a:A2):A2:=dblA (dblA (dblA a))
def baseA:A2:=(bX,bY)
def encP (a:A2):List UInt8:=encA a.1 a.2
def decA (l:List UInt8):A2:=(decX l,decY l)
def Gd (p:P4) (a:A2):Prop:=Fld.Good p a.1 a.2
theorem Gd.z {p:P4} {a:A2} (h:Gd p a):p.z≠0:=Fld.Good.z h
theorem Gd.dbl {p:P4} {a:A2} (h:Gd p a):Gd (tw p) (dblA a):=Fld.Good.tw h
theorem Gd.eight {p:P4} {a:A2} (h:Gd p a):Gd (tw (tw (tw p))) (eightA a):=h.dbl.dbl.dbl
theorem Gd.mul {p:P4} {a:A2} (h:Gd p a) (l:List UInt8):Gd (tmsK p l 256) (mulA a l):=Fld.Good.tms h l 256
theorem Gd.base:Gd baseP baseA:=Fld.Good.base
theorem Gd.dec {l:List UInt8} (h:decB l=true):Gd (decP l) (decA l):=Fld.Good.dec l h
theorem encA_length (x y:FP):(encA x y).length=32:=by
 unfold encA
 split
 · rw [List.length_set,leB_length]
 · exact leB_length _ _
theorem encP_length (a:A2):(encP a).length=32:=encA_length _ _
theorem enc_gd {p:P4} {a:A2} (h:Gd p a) (w:World) (hF:ET w):Calls Tryz.prog 56 #[.agg (ptv p)] w fun e w'=>e = .returned (.agg (bysA (encP a)))∧Below w.heap.size w w':=by
 have he:=encode_p p h.z w hF
 have hz:p.z*zinv p.z=1:=Ed.inv_fpow Ed.prP h.z
 have hx:p.x*zinv p.z=a.1:=by rw [h.2.hx]; exact Ed.ring_inv hz
 have hy:p.y*zinv p.z=a.2:=by rw [h.2.hy]; exact Ed.ring_inv hz
 rw [hx,hy] at he
 exact he
theorem tms_gd {p:P4} {a:A2} (h:Gd p a) (l:List UInt8) (hl:l.length=32) (w:World) (hF:ET w):Calls Tryz.prog 54 #[.agg (ptv p),.agg (bysA l)] w fun e w'=>e = .returned (.agg (ptv (tmsK p l 256)))∧Below w.heap.size w w' :=
 times_p p l hl h.z (fun k=>⟨(Fld.Good.tms h l k).z,(Fld.Good.tms h l k).tw.z⟩) w hF
theorem ring_z0 {x Z:FP} (h:x*Z*1=0*Z):Z*x=Z*0:=by grind
theorem ring_z1 {y Z:FP} (h:y*Z*1=1*Z):Z*y=Z*1:=by grind
theorem ring_z2 {Z:FP}:(0:FP)*Z*1=0*Z∧(1:FP)*Z*1=1*Z:=by grind
theorem zero_gd {p:P4} {a:A2} (h:Gd p a) (w:World) (hF:ET w):Calls Tryz.prog 241 #[.agg (ptv p),.agg (pt 0 0 0 0)] w fun e w'=>e = .returned (.bool (decide (a=(0,1))))∧Below w.heap.size w w':=by
 have hs:=psame_zero p.x p.y p.z p.t w hF h.z
 have e:decide (p.x*1=0*p.z∧p.y*1=1*p.z)=decide (a=(0,1)):=by
  rw [Bool.eq_iff_iff,decide_eq_true_iff,decide_eq_true_iff]
  rw [h.2.hx,h.2.hy]
  obtain ⟨x,y⟩:=a
  constructor
  ·rintro ⟨h1,h2⟩
   have e1:x=0:=Ed.fl.cancel h.z (ring_z0 h1)
   have e2:y=1:=Ed.fl.cancel h.z (ring_z1 h2)
   rw [e1,e2]
  ·intro he
   cases he
   exact ring_z2
 rw [e] at hs
 exact hs
theorem load_mid {x:World} {b off:Nat} {l:List UInt8} {t:TypeId} {f:Nat×Nat} (h:x.heap[b]? = some (.cells (bysA l) t f)) (hl:off+32≤l.length):(Instr.loadAt 22 (.pointer (some ⟨b,off,none⟩))).run Tryz.prog x = .ok (.agg (bysA ((l.drop off).take 32))) x:=by
 have hlen:((l.drop off).take 32).length=32:=by rw [List.length_take,List.length_drop]; omega
 have:=run_loadAt_mid x b off 22 (bysA ((l.drop off).take 32)).toList _ (fun j u hu=>by
  rw [cell_of_row x b _ _ _ _ h]
  unfold bysA at hu ⊢
  simp only [bys,List.getElem?_toArray,List.getElem?_map,List.getElem?_take,List.getElem?_drop] at hu ⊢
  split at hu
  · exact hu
  · cases hu) Tryz.underlying22 rfl (by
  rw [Array.length_toList]; exact info32E _ hlen)
 simpa using this
theorem Rd_row {x:World} {b off n c:Nat} {l:List UInt8} {t:TypeId} {f:Nat×Nat} (h:x.heap[b]? = some (.cells (bysA l) t f)) (hn:off+n≤l.length) (hc:n≤c) (hm:c≤maxLen):Rd x 1 (.slice (some ⟨b,off,none⟩) n c) n (bys ((l.drop off).take n)):=by
 refine ⟨by rw [bys_length,List.length_take,List.length_drop]; omega,.inr ⟨b,off,c,rfl,lt_of_heap h,hc,hm,fun j u hu => ?_⟩⟩
 rw [cell_of_row x b _ _ _ _ h]
 unfold bysA
 simp only [bys,List.getElem?_toArray,List.getElem?_map,List.getElem?_take,List.getElem?_drop] at hu ⊢
 split at hu
 · exact hu
 · cases hu
theorem Parts.new (w:World) (t:TypeId) (vs:List Value) (L:List (List UInt8)) (hv:vs.length=L.length) (hm:L.length≤maxLen) (h : ∀ i,i<L.length → ∃ q c,vs[i]? = some (.slice q (L.getD i []).length c)∧Rd w 1 (.slice q (L.getD i []).length c) (L.getD i []).length (bys (L.getD i []))):Parts (w.alloc (.cells vs.toArray t)) (.slice (some ⟨w.heap.size,0,none⟩) L.length L.length) L:=by
 have hb:Below w.heap.size w (w.alloc (.cells vs.toArray t)):=(Below.refl _ _).alloc (Nat.le_refl _) _
 refine ⟨vs,Rd_lit w vs.toArray t 1 L.length (by simp [hv]) hm,fun i hi => ?_⟩
 obtain ⟨q,c,h1,h2⟩:=h i hi
 exact ⟨q,c,h1,h2.below hb⟩
def numB (l:List UInt8):Nat:=leN (S5.sum l)%Q
end Vr
end Go.Proofs.YtfodadedkilgdaaGreatDoor

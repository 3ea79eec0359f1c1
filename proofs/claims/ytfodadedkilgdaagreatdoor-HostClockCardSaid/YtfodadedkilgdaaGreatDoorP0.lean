/- A part of the proof. Plain; no condition. -/
import Derived.WalkKit
import Derived.Test.YtfodadedkilgdaaGreatDoorChecked
import Derived.WalkSpells
import Derived.WalkLawsBesides
import Derived.Deep.QuietTactic
import Derived.BigQuiet
import Derived.StillTail
import Derived.Deep.Quiet
import Derived.Deep.WholeRow
import Derived.Deep.MidRow
import Derived.Laws.CopyRow
import Derived.Deep.Draws
import Derived.Lib.Hide
import Derived.Deep.LoopGhost
import Derived.Deep.DeepFit
import Derived.KernelRfl
namespace Go.Proofs.YtfodadedkilgdaaGreatDoor
namespace Bits
def n32 (a:BitVec 32):Int:=(a.toNat:Int)
theorem ofInt32 (a:BitVec 32):BitVec.ofInt 32 (n32 a)=a:=by
 unfold n32; rw [BitVec.ofInt_natCast]; simp
theorem wrap32 (a:BitVec 32):IntKind.u32.wrap (a.toNat:Int)=n32 a:=by
 have:=a.isLt
 unfold n32
 rw [IntKind.wrap_u32']; omega
@[go_sem] theorem u32_same (a:BitVec 32):IntKind.u32.wrap (n32 a)=n32 a:=wrap32 a
@[go_sem] theorem u32_add (a b:BitVec 32):IntKind.u32.wrap (n32 a+n32 b)=n32 (a+b):=by
 unfold n32; rw [IntKind.wrap_u32',BitVec.toNat_add]; omega
@[go_sem] theorem u32_add' (a b:BitVec 32):(n32 a+n32 b)%(4294967296:Int)=n32 (a+b):=by
 unfold n32; rw [BitVec.toNat_add]; omega
@[go_sem] theorem u32_xor (a b:BitVec 32):bits .xor .u32 (n32 a) (n32 b)=n32 (a ^^^ b):=by
 show IntKind.u32.wrap ((BitVec.ofInt 32 (n32 a) ^^^ BitVec.ofInt 32 (n32 b)).toNat:Int)=_
 rw [ofInt32,ofInt32,wrap32]
@[go_sem] theorem u32_and (a b:BitVec 32):bits .and .u32 (n32 a) (n32 b)=n32 (a &&& b):=by
 show IntKind.u32.wrap ((BitVec.ofInt 32 (n32 a) &&& BitVec.ofInt 32 (n32 b)).toNat:Int)=_
 rw [ofInt32,ofInt32,wrap32]
@[go_sem] theorem u32_or (a b:BitVec 32):bits .or .u32 (n32 a) (n32 b)=n32 (a ||| b):=by
 show IntKind.u32.wrap ((BitVec.ofInt 32 (n32 a) ||| BitVec.ofInt 32 (n32 b)).toNat:Int)=_
 rw [ofInt32,ofInt32,wrap32]
@[go_sem] theorem u32_not (a:BitVec 32):bits .xor .u32 (4294967295:Int) (n32 a)=n32 (~~~a):=by
 show IntKind.u32.wrap ((BitVec.ofInt 32 4294967295 ^^^ BitVec.ofInt 32 (n32 a)).toNat:Int)=_
 rw [ofInt32,wrap32]
 have h:BitVec.ofInt 32 4294967295=BitVec.allOnes 32:=by decide
 rw [h,BitVec.allOnes_xor]
@[go_sem] theorem u32_not' (a:BitVec 32):bits .xor .u32 (if IntKind.u32.signed=true then -1 else IntKind.u32.max) (n32 a)=n32 (~~~a):=by
 rw [if_neg (by decide),show IntKind.u32.max=(4294967295:Int) from by decide]; exact u32_not a
@[go_sem] theorem u32_shr (a:BitVec 32) (n:Nat):n32 a / (2:Int)^n=n32 (a >>> n):=by
 unfold n32; rw [BitVec.toNat_ushiftRight,Nat.shiftRight_eq_div_pow]; simp
@[go_sem] theorem u32_shl (a:BitVec 32) (n:Nat):n32 a*(2:Int)^n%(4294967296:Int)=n32 (a <<< n):=by
 unfold n32; rw [BitVec.toNat_shiftLeft,Nat.shiftLeft_eq]; simp
@[go_sem] theorem u32_shl8 (a:BitVec 32):n32 a*(256:Int)%(4294967296:Int)=n32 (a <<< 8):=by
 have h:=u32_shl a 8; rw [show ((2:Int)^8)=256 from rfl] at h; exact h
@[go_sem] theorem u32_shl8' (a:BitVec 32):IntKind.u32.wrap (n32 a*(256:Int))=n32 (a <<< 8):=by
 rw [IntKind.wrap_u32']; exact u32_shl8 a
@[go_sem] theorem u32_shlw (a:BitVec 32) (n:Nat):IntKind.u32.wrap (n32 a*(2:Int)^n)=n32 (a <<< n):=by
 rw [IntKind.wrap_u32',u32_shl]
theorem rotRight (x:BitVec 32) (m:Nat) (h:m<32):(x <<< (32-m)) ||| (x >>> m)=x.rotateRight m:=by
 rw [BitVec.rotateRight,Nat.mod_eq_of_lt h,BitVec.rotateRightAux,BitVec.or_comm]
end Bits
end Go.Proofs.YtfodadedkilgdaaGreatDoor
namespace Go.Proofs.YtfodadedkilgdaaGreatDoor
open Go.RowKit Bits
namespace Sha
theorem rotArg (m:Nat) (h0:0<m) (h1:m<32):bits .and .u64 (IntKind.u64.wrap (-(m:Int))) 31=((32-m:Nat):Int):=by
 have e:IntKind.u64.wrap (-(m:Int))=((18446744073709551616-m:Nat):Int):=by rw [IntKind.wrap_u64]; omega
 rw [e]
 have h:=u64_and_nat (18446744073709551616-m) 31 (by omega) (by omega)
 rw [show ((31:Nat):Int)=31 from rfl] at h
 rw [h,show (31:Nat)=2^5-1 from rfl,Nat.and_two_pow_sub_one_eq_mod]
 omega
set_option maxRecDepth 100000 in
set_option maxHeartbeats 400000 in
theorem rot_any (x:BitVec 32) (m:Nat) (w:World) (h0:0<m) (h1:m<32) :
 Calls Tryz.prog 245 #[.int .u32 (n32 x),.int .i64 (-(m:Int))] w fun e w'=>e = .returned (.int .u32 (n32 (x.rotateRight m)))∧w=w':=by
 have r1:=rotArg m h0 h1
 have r4:IntKind.u64.wrap (32-((32-m:Nat):Int))=(m:Int):=by rw [IntKind.wrap_u64]; omega
 have r5:=Bits.rotRight x m h1
 go_enter Tryz.func245,Tryz.ntmps245
 go_wp2
 go_ret
 exact ⟨rfl,rfl⟩
set_option maxRecDepth 100000 in
set_option maxHeartbeats 400000 in
theorem turn_any (x:BitVec 32) (m:Nat) (w:World) (h0:0<m) (h1:m<32) :
 Calls Tryz.prog 235 #[.int .u32 (n32 x),.int .i64 (m:Int)] w fun e w'=>e = .returned (.int .u32 (n32 (x.rotateRight m)))∧w=w':=by
 go_enter Tryz.func235,Tryz.ntmps235
 go_wp2_with (go_at_call 245; refine (rot_any _ _ _ h0 h1).mono ?_; rintro e w' ⟨rfl,rfl⟩)
 go_ret
 exact ⟨rfl,rfl⟩
end Sha
end Go.Proofs.YtfodadedkilgdaaGreatDoor
namespace Go.Proofs.YtfodadedkilgdaaGreatDoor
namespace Sha
def bt (l:List UInt8) (k:Nat):UInt8:=l.getD k 0
def rd (A:List (BitVec 32)) (j:Nat):BitVec 32:=A.getD j 0
def sml (x:BitVec 32) (p q r:Nat):BitVec 32:=x.rotateRight p ^^^ x.rotateRight q ^^^ x >>> r
def bg (x:BitVec 32) (p q r:Nat):BitVec 32:=x.rotateRight p ^^^ x.rotateRight q ^^^ x.rotateRight r
def by32 (b:UInt8):BitVec 32:=BitVec.ofNat 32 b.toNat
def spread1 (l:List UInt8):Nat→List (BitVec 32)
 | 0=>List.replicate 64 0
 | k+1=>(spread1 l k).set (k / 4) ((rd (spread1 l k) (k / 4) <<< 8) ||| by32 (bt l k))
def next1 (A:List (BitVec 32)) (i:Nat):BitVec 32:=rd A i+sml (rd A (i+1)) 7 18 3+rd A (i+9)+sml (rd A (i+14)) 17 19 10
def spread2 (A:List (BitVec 32)):Nat→List (BitVec 32)
 | 0=>A
 | i+1=>(spread2 A i).set (16+i) (next1 (spread2 A i) i)
def spread (l:List UInt8):List (BitVec 32):=spread2 (spread1 l 64) 48
def KKn:List Nat := [1116352408,1899447441,3049323471,3921009573,961987163,1508970993,2453635748,2870763221,3624381080,310598401,607225278,1426881987,1925078388,2162078206,2614888103,3248222580,3835390401,4022224774,264347078,604807628,770255983,1249150122,1555081692,1996064986,2554220882,2821834349,2952996808,3210313671,3336571891,3584528711,113926993,338241895,666307205,773529912,1294757372,1396182291,1695183700,1986661051,2177026350,2456956037,2730485921,2820302411,3259730800,3345764771,3516065817,3600352804,4094571909,275423344,430227734,506948616,659060556,883997877,958139571,1322822218,1537002063,1747873779,1955562222,2024104815,2227730452,2361852424,2428436474,2756734187,3204031479,3329325298]
def HHn:List Nat := [1779033703,3144134277,1013904242,2773480762,1359893119,2600822924,528734635,1541459225]
def KK:List (BitVec 32):=KKn.map (BitVec.ofNat 32)
def HH:List (BitVec 32):=HHn.map (BitVec.ofNat 32)
def tee (v W:List (BitVec 32)) (i:Nat):BitVec 32:=rd v 7+bg (rd v 4) 6 11 25+((rd v 4 &&& rd v 5) ^^^ (~~~rd v 4 &&& rd v 6))+rd KK i+rd W i
def you (v:List (BitVec 32)):BitVec 32:=bg (rd v 0) 2 13 22+((rd v 0 &&& rd v 1) ^^^ (rd v 0 &&& rd v 2) ^^^ (rd v 1 &&& rd v 2))
def rnd (v W:List (BitVec 32)) (i:Nat):List (BitVec 32) := [tee v W i+you v,rd v 0,rd v 1,rd v 2,rd v 3+tee v W i,rd v 4,rd v 5,rd v 6]
def rnds (v W:List (BitVec 32)):Nat→List (BitVec 32)
 | 0=>v
 | i+1=>rnd (rnds v W i) W i
def addw (h v:List (BitVec 32)):Nat→List (BitVec 32)
 | 0=>h
 | i+1=>(addw h v i).set i (rd (addw h v i) i+rd v i)
def press (h:List (BitVec 32)) (l:List UInt8):List (BitVec 32):=addw h (rnds h (spread l) 64) 8
theorem KK_length:KK.length=64:=rfl
theorem HH_length:HH.length=8:=rfl
theorem rnds_length (v W:List (BitVec 32)) (hv:v.length=8) (i:Nat):(rnds v W i).length=8:=by
 cases i with
 | zero=>exact hv
 | succ i=>rfl
theorem addw_length (h v:List (BitVec 32)) (i:Nat):(addw h v i).length=h.length:=by
 induction i with
 | zero=>rfl
 | succ i ih=>simp [addw,ih]
theorem press_length (h:List (BitVec 32)) (l:List UInt8):(press h l).length=h.length:=addw_length _ _ _
theorem spread1_length (l:List UInt8) (k:Nat):(spread1 l k).length=64:=by
 induction k with
 | zero=>simp [spread1]
 | succ k ih=>simp [spread1,ih]
theorem spread2_length (A:List (BitVec 32)) (k:Nat):(spread2 A k).length=A.length:=by
 induction k with
 | zero=>simp [spread2]
 | succ k ih=>simp [spread2,ih]
theorem spread_length (l:List UInt8):(spread l).length=64:=by simp [spread,spread2_length,spread1_length]
def pressN:Nat→List (BitVec 32)→List UInt8→List (BitVec 32)
 | 0,H,_=>H
 | n+1,H,l=>pressN n (press H (l.take 64)) (l.drop 64)
def st (all:List UInt8):List (BitVec 32):=pressN (all.length / 64) HH all
def rs (all:List UInt8):List UInt8:=all.drop (64*(all.length / 64))
theorem pressN_length (n:Nat) : ∀ (H:List (BitVec 32)) (l:List UInt8),(pressN n H l).length=H.length:=by
 induction n with
 | zero=>intro H l; rfl
 | succ n ih=>intro H l; rw [pressN,ih,press_length]
theorem st_length (all:List UInt8):(st all).length=8:=by rw [st,pressN_length]; rfl
theorem pressN_succ (n:Nat) : ∀ (H:List (BitVec 32)) (l:List UInt8),pressN (n+1) H l=press (pressN n H l) ((l.drop (64*n)).take 64):=by
 induction n with
 | zero=>intro H l; simp [pressN]
 | succ n ih =>
   intro H l
   rw [pressN,ih,pressN,List.drop_drop,show 64+64*n=64*(n+1) by omega]
theorem pressN_append (n:Nat) : ∀ (H:List (BitVec 32)) (l r:List UInt8),64*n≤l.length→pressN n H (l++r)=pressN n H l:=by
 induction n with
 | zero=>intro H l r _; rfl
 | succ n ih =>
   intro H l r h
   have h1:64≤l.length:=by omega
   rw [pressN,pressN,List.take_append_of_le_length h1,List.drop_append_of_le_length h1]
   exact ih _ _ _ (by rw [List.length_drop]; omega)
theorem pressN_add (a b:Nat) : ∀ (H:List (BitVec 32)) (l:List UInt8),pressN (a+b) H l=pressN b (pressN a H l) (l.drop (64*a)):=by
 induction a with
 | zero=>intro H l; simp [pressN]
 | succ a ih =>
   intro H l
   rw [show a+1+b=(a+b)+1 by omega,pressN,ih,pressN,List.drop_drop,show 64+64*a=64*(a+1) by omega]
theorem rs_length (all:List UInt8):(rs all).length=all.length%64:=by rw [rs,List.length_drop]; omega
theorem st_append (all l:List UInt8):st (all++l)=pressN ((rs all++l).length / 64) (st all) (rs all++l):=by
 unfold st
 have e:(all++l).length / 64=all.length / 64+(rs all++l).length / 64:=by
  rw [List.length_append,List.length_append,rs_length]; omega
 have hd:(all++l).drop (64*(all.length / 64))=rs all++l:=by
  rw [List.drop_append_of_le_length (by omega)]; rfl
 rw [e,pressN_add,pressN_append _ _ _ _ (by omega),hd]
theorem rs_append (all l:List UInt8):rs (all++l)=(rs all++l).drop (64*((rs all++l).length / 64)):=by
 have hd:(all++l).drop (64*(all.length / 64))=rs all++l:=by
  rw [List.drop_append_of_le_length (by omega)]; rfl
 rw [← hd,List.drop_drop]
 rw [show rs (all++l)=(all++l).drop (64*((all++l).length / 64)) from rfl]
 congr 1
 rw [List.length_drop,List.length_append]
 omega
def zc (r:Nat):Nat:=(119-r%64)%64
def be (x:Nat) (j:Nat):List UInt8:=(List.range j).map fun i=>UInt8.ofNat (x / 2^(8*(7-i)))
def padz (R:List UInt8) (j:Nat):List UInt8:=R++128::List.replicate j 0
def pad (n:Nat) (R:List UInt8):List UInt8:=padz R (zc R.length)++be (8*n) 8
def by8 (x:BitVec 32):UInt8:=UInt8.ofNat x.toNat
def four (x:BitVec 32):List UInt8 := [by8 (x >>> 24),by8 (x >>> 16),by8 (x >>> 8),by8 x]
def outb (W:List (BitVec 32)):List UInt8:=W.flatMap four
def sha (all:List UInt8):List UInt8:=outb (pressN ((pad all.length (rs all)).length / 64) (st all) (pad all.length (rs all)))
theorem padz_length (R:List UInt8) (j:Nat):(padz R j).length=R.length+1+j:=by simp [padz]; omega
theorem padz_succ (R:List UInt8) (j:Nat):padz R (j+1)=padz R j ++ [0]:=by
 unfold padz; rw [List.replicate_succ']; simp
theorem be_length (x j:Nat):(be x j).length=j:=by simp [be]
theorem be_succ (x j:Nat):be x (j+1)=be x j ++ [UInt8.ofNat (x / 2^(8*(7-j)))]:=by
 unfold be; rw [List.range_succ,List.map_append]; rfl
theorem zc_spec (r:Nat):(r+1+zc r)%64=56:=by unfold zc; omega
theorem zc_first (r j:Nat) (h:(r+1+j)%64=56):zc r≤j:=by unfold zc; omega
theorem zc_le (r:Nat):zc r≤63:=by unfold zc; omega
theorem pad_length (n:Nat) (R:List UInt8):(pad n R).length=R.length+9+zc R.length:=by
 unfold pad; rw [List.length_append,padz_length,be_length]; omega
theorem pad_mod (n:Nat) (R:List UInt8):(pad n R).length%64=0:=by
 rw [pad_length]; have:=zc_spec R.length; omega
theorem outb_length (W:List (BitVec 32)):(outb W).length=4*W.length:=by
 induction W with
 | nil=>rfl
 | cons x W ih=>simp only [outb,List.flatMap_cons,List.length_append,List.length_cons] at ih ⊢; rw [ih]; simp [four]; omega
theorem outb_append (V W:List (BitVec 32)):outb (V++W)=outb V++outb W:=by simp [outb]
theorem sha_length (all:List UInt8):(sha all).length=32:=by
 rw [sha,outb_length,pressN_length,st_length]
end Sha
end Go.Proofs.YtfodadedkilgdaaGreatDoor
namespace Go.Proofs.YtfodadedkilgdaaGreatDoor
namespace Rg
theorem store_row {P:Program} {ops:Array Oper} {rest:List Oper} {o:Oper} {a:Act} {w:World} {Q:Exit→Act→World→Prop} (hgd:o.guard=none) (ty:TypeId) (x v:Operand) (ho:o.op = .store ty x v)
 (g:Nat) (hx:a.eval x = .pointer (some ⟨g,0,none⟩)) (t:TypeId) (old cs:Array Value) (hv:a.eval v = .agg cs) (hg:w.heap[g]? = some (.cells old t (0,0)))
 (hi:(P.info? ty).map (·.size)=some cs.size) (hs:old.size=cs.size) (h1:cs.all (·.oneCell')=true)
 (h:wpList P ops Q rest (a.put o.dst undef) (w.setRow g cs)):wpList P ops Q (o::rest) a w :=
 wpList_plain hgd fun _ hK=>by
  unfold Oper.wp execOp
  simp only [ho,hx,hv,Instr.storeAt,Instr.sureAddr,Sem.run_bind,Sem.run_pure,Result.andThen_ok,run_storeVar_row w g t ty old cs hg hi hs h1]
  exact hK _ _ h
theorem setRow_alloc_at (w:World) (c c':Array Value) (t:TypeId) (g:Nat) (hg:g=w.heap.size):(w.alloc (.cells c t)).setRow g c'=w.alloc (.cells c' t):=by
 subst hg; exact World.setRow_alloc_new w c c' t
theorem store_part {P:Program} {ops:Array Oper} {rest:List Oper} {o:Oper} {a:Act} {w:World} {Q:Exit→Act→World→Prop} (hgd:o.guard=none) (ty:TypeId) (x v:Operand) (ho:o.op = .store ty x v)
 (g off:Nat) (hx:a.eval x = .pointer (some ⟨g,off,none⟩)) (t:TypeId) (cur cs:Array Value) (hv:a.eval v = .agg cs) (hg:w.heap[g]? = some (.cells cur t (0,0)))
 (hi:(P.info? ty).map (·.size)=some cs.size) (hs:off+cs.size≤cur.size) (h1:cs.all (·.oneCell')=true)
 (h:wpList P ops Q rest (a.put o.dst undef) (w.setRow g (cur.toList.take off++cs.toList++cur.toList.drop (off+cs.size)).toArray)):wpList P ops Q (o::rest) a w :=
 wpList_plain hgd fun _ hK=>by
  have hst:=run_storeCells_at P g off t cs.toList 0 cur w hg (by simpa using hs) (fun u hu=>(Array.all_eq_true_iff_forall_mem.1 h1) u (by simpa using hu))
  have hrun:(storeVar ty ⟨g,off,none⟩ (.agg cs)).run P w = .ok () (w.setRow g (cur.toList.take off++cs.toList++cur.toList.drop (off+cs.size)).toArray):=by
   cases hq:P.info? ty with
   | none=>simp [hq] at hi
   | some i =>
     have hs':cs.size=i.size:=by simp [hq] at hi; omega
     simp only [Nat.add_zero,Array.length_toList] at hst
     simp [storeVar,sizeOf,typeInfo,hq,Value.cells,hs',hst]
  unfold Oper.wp execOp
  simp only [ho,hx,hv,Instr.storeAt,Instr.sureAddr,Sem.run_bind,Sem.run_pure,Result.andThen_ok,hrun]
  exact hK _ _ h
theorem setRow_drewN (w:World) (n g:Nat) (c:Array Value):(w.drewN n).setRow g c=(w.setRow g c).drewN n:=rfl
theorem heap_alloc_at (w:World) (o:Obj) (g:Nat) (hg:g=w.heap.size):(w.alloc o).heap[g]? = some o:=by
 subst hg; exact heap_alloc_last w o
theorem store_row_new {P:Program} {ops:Array Oper} {rest:List Oper} {o:Oper} {a:Act} {w:World} {Q:Exit→Act→World→Prop} (hgd:o.guard=none) (ty:TypeId) (x v:Operand) (ho:o.op = .store ty x v)
 (g:Nat) (hg:g=w.heap.size) (hx:a.eval x = .pointer (some ⟨g,0,none⟩)) (t:TypeId) (old cs:Array Value) (hv:a.eval v = .agg cs)
 (hi:(P.info? ty).map (·.size)=some cs.size) (hs:old.size=cs.size) (h1:cs.all (·.oneCell')=true)
 (h:wpList P ops Q rest (a.put o.dst undef) (w.alloc (.cells cs t))):wpList P ops Q (o::rest) a (w.alloc (.cells old t)) :=
 store_row hgd ty x v ho g hx t old cs hv (heap_alloc_at _ _ _ hg) hi hs h1 (by rw [setRow_alloc_at _ _ _ _ _ hg]; exact h)
theorem heap_alloc_past (w:World) (o:Obj) (g:Nat) (hg:g<w.heap.size):(w.alloc o).heap[g]? = w.heap[g]? := by
 show (w.heap.push o)[g]? = w.heap[g]?
 rw [Array.getElem?_push,if_neg (Nat.ne_of_lt hg)]
theorem setRow_self {w:World} {g:Nat} {c:Array Value} {t:TypeId} {fr:Nat×Nat} (hg:w.heap[g]? = some (.cells c t fr)):w.setRow g c=w:=by
 unfold World.setRow
 congr 1
 apply Array.ext_getElem?
 intro k
 rw [Array.getElem?_modify]
 by_cases hk:g=k
 · subst hk; simp [hg]
 · simp [hk]
theorem setRow_setRow (w:World) (g:Nat) (c c':Array Value):(w.setRow g c).setRow g c'=w.setRow g c':=by
 unfold World.setRow
 congr 1
 apply Array.ext_getElem?
 intro k
 simp only [Array.getElem?_modify]
 by_cases hk:g=k
 ·subst hk
  cases hh:w.heap[g]? with
  | none=>simp
  | some o=>cases o <;> simp
 · simp [hk]
theorem setCell_setRow {w:World} {g:Nat} {c old:Array Value} {t:TypeId} {fr:Nat×Nat} (hg:w.heap[g]? = some (.cells old t fr)) (k:Nat) (v:Value) :
 (w.setRow g c).setCell ⟨g,k,none⟩ v=w.setRow g (c.setIfInBounds k v):=by
 rw [setCell_eq_setRow (w.setRow g c) g k c t fr v (setRow_heap w g old c t fr hg),setRow_setRow]
theorem below_setRow {B:Nat} {a w:World} (h:RowKit.Below B a w) {g:Nat} (hg:B≤g) (c:Array Value):RowKit.Below B a (w.setRow g c) :=
 h.trans ⟨rfl,rfl,rfl,by simp,fun k hk=>setRow_other w g k c (by omega)⟩
theorem below_drewN {B:Nat} {a w:World} (h:RowKit.Below B a w) (n:Nat):RowKit.Below B a (w.drewN n):=⟨h.os,h.tape,h.output,h.size,h.block⟩
theorem below_row {B:Nat} {a w:World} (h:RowKit.Below B a w) {g:Nat} (hg:g<B) {o:Obj} (ho:a.heap[g]? = some o):w.heap[g]? = some o:=(h.block g hg).trans ho
section
variable {P:Program} {ops:Array Oper} {md:Region.Mode} {C:World→Prop}
def anyL (P:Program) (md:Region.Mode) (ops:Array Oper) (C:World→Prop) (n:Nat) (L:Array Bool→Act→Prop):Nat→Array Bool→Act→Prop
 | 0,listed,a=>L listed a
 | f+1,listed,a =>
   Region.ready md ops listed ≠ [] ∧ ∀ i∈Region.ready md ops listed,i<n∧qOp P ops C i (anyL P md ops C n L f (listed.setIfInBounds i true)) a
theorem any_of_head {n g:Nat} {L:Array Bool→Act→Prop} {Q':Exit→Act→World→Prop} (hL : ∀ listed a w,C w→L listed a→wpAny P md ops Q' g listed a w) :
 ∀ (f:Nat) (listed:Array Bool) (a:Act) (w:World),C w→anyL P md ops C n L f listed a→wpAny P md ops Q' (f+g) listed a w
 | 0,listed,a,w,hw,h=>by rw [Nat.zero_add]; exact hL _ _ _ hw h
 | f+1,listed,a,w,hw,h=>by
   rw [show f+1+g=(f+g)+1 by omega]
   exact ⟨fun h0=>absurd h0 h.1,fun i hi=>wpOp_of_qOp hw (fun a' w' hw' h'=>any_of_head hL f _ a' w' hw' h') (h.2 i hi).2⟩
theorem anyL_first {n i:Nat} {oi:Oper} {v:Value} {L:Array Bool→Act→Prop} (hi:ops[i]? = some oi) (hsel : ∀ (j:Nat) (o:Oper) cs b,ops[j]? = some o→o.op ≠ .select cs b)
 (hs:Region.sinkB md ops n=true) (hc:Region.chainB md ops n=true) (hn:n<ops.size) (hin:i<n)
 (hdone : ∀ listed a,L listed a → ∀ j∈Region.ready md ops listed,n≤j) :
 ∀ (f:Nat) (listed:Array Bool) (a:Act),HeadInv md ops n listed →
   (∀ j oj,ops[j]? = some oj→j≠i→listed.getD j true=false→(∀ e∈oj.after,Region.binds md e=true→e.on≠i)→oi.apart ops oj=true) →
   i∈Region.ready md ops listed→YieldsIn P ops C oi v a →
   anyL P md ops C n L f (listed.setIfInBounds i true) (a.put oi.dst v)→anyL P md ops C n L (f+1) listed a:=by
 intro f
 induction f with
 | zero =>
   intro listed a inv _ hr hy H
   have hun:=(mem_ready.1 hr).1
   refine ⟨fun h=>(by rw [h] at hr; cases hr),fun j hj => ?_⟩
   have hjn:j<n:=by
    rcases Nat.lt_or_ge j n with h | h
    · exact h
    · exact absurd hj (tail_waits hs hc hn inv _ i rfl hin hun j h)
   refine ⟨hjn,?_⟩
   by_cases hji:j=i
   · subst hji; exact hy.qOp hi H
   ·have:=hdone _ _ H j (ready_mono hj hji)
    omega
 | succ f ih =>
   intro listed a inv hfree hr hy H
   have hun:=(mem_ready.1 hr).1
   refine ⟨fun h=>(by rw [h] at hr; cases hr),fun j hj => ?_⟩
   have hjn:j<n:=by
    rcases Nat.lt_or_ge j n with h | h
    · exact h
    · exact absurd hj (tail_waits hs hc hn inv _ i rfl hin hun j h)
   refine ⟨hjn,?_⟩
   by_cases hji:j=i
   · subst hji; exact hy.qOp hi H
   ·have h1:=(H.2 j (ready_mono hj hji)).2
    obtain ⟨hjun,oj,hoj,hall⟩:=mem_ready.1 hj
    have hnot : ∀ e∈oj.after,Region.binds md e=true→e.on≠i:=fun e he hb heq=>by
     have h1:=hall e he hb
     rw [heq,getD_both hun] at h1
     cases h1
    have h2:=qOp_put hoj (hfree j oj hoj hji hjun hnot) (fun cs b=>hsel i oi cs b hi) (fun cs b=>hsel j oj cs b hoj) hy h1
    have hfree' : ∀ k ok,ops[k]? = some ok→k≠i→(listed.setIfInBounds j true).getD k true=false →
     (∀ e∈ok.after,Region.binds md e=true→e.on≠i)→oi.apart ops ok=true:=fun k ok hk hki hun hno=>by
     refine hfree k ok hk hki ?_ hno
     by_cases hjk:j=k
     · subst hjk; exact hjun
     · rw [getD_set_ne true hjk] at hun; exact hun
    refine qOp_mono (fun a' h3=>ih (listed.setIfInBounds j true) a' (inv.set hj hjn) hfree' (ready_mono hr (Ne.symm hji)) h3.1 ?_) h2
    rw [Array.setIfInBounds_comm _ _ hji]
    exact h3.2
theorem anyL_lex {n g:Nat} {Lq:Act→Prop} (hsel:Region.noSelect ops=true) (hs:Region.sinkB md ops n=true) (hc:Region.chainB md ops n=true) (hn:n<ops.size) :
 ∀ (l:List Oper) (k:Nat) (listed:Array Bool) (a:Act),(∀ j,j<l.length→l[j]? = ops[k+j]?)→k+l.length=n→HeadInv md ops n listed →
 Region.lexHead md ops g l.length k listed=true→wpQuiet P ops C Lq l a →
 anyL P md ops C n (fun listed' a'=>Region.seqB md ops g n listed'=true∧Lq a') l.length listed a
 | [],k,listed,a,_,hk,_,hB,h=>by
   have:k=n:=by simpa using hk
   subst this
   exact ⟨by simpa [Region.lexHead] using hB,h⟩
 | o::l,k,listed,a,hl,hk,inv,hB,h=>by
   have h0:ops[k]? = some o:=by simpa using (hl 0 (by simp)).symm
   simp only [List.length_cons,Region.lexHead,Bool.and_eq_true] at hB
   obtain ⟨⟨hr,hf⟩,hB'⟩:=hB
   have hkn:k<n:=by simp only [List.length_cons] at hk; omega
   have hr':k∈Region.ready md ops listed:=by simpa using hr
   have hst:qOp P ops C k (wpQuiet P ops C Lq l) a:=by unfold qOp; simp only [h0]; exact h
   obtain ⟨v,hy,hK⟩:=yieldsIn_of_qOp h0 hst
   exact anyL_first h0 (Region.noSelect_spec hsel) hs hc hn hkn (fun listed' a' hL=>seqB_ready hL.1) l.length listed a inv (Region.free_spec h0 hf) hr' hy
    (anyL_lex hsel hs hc hn l (k+1) _ _ (fun j hj=>by have:=hl (j+1) (by simp; omega); simpa [Nat.add_assoc,Nat.add_comm 1 j] using this) (by simp only [List.length_cons] at hk; omega) (inv.set hr' hkn) hB' hK)
theorem tail {id:Nat} {Q:Exit→Act→World→Prop} {a:Act} {w:World} {l:List Oper} (C:World→Prop) (n:Nat) (hm:P.follows .mixedOrders=true) (hB:Region.lexTailB .any l.toArray n=true) (hC:C w.drew)
 (h:wpQuiet P l.toArray C (fun a' => ∀ w',C w'→wpList P l.toArray Q (l.drop n) a' w') (l.take n) a):(Code.region id l.toArray true).wp P Q a w:=by
 simp only [Region.lexTailB,Bool.and_eq_true,decide_eq_true_eq] at hB
 obtain ⟨⟨⟨⟨hsel,hn⟩,hs⟩,hc⟩,hlex⟩:=hB
 have hn':n<l.length:=by simpa using hn
 have htl:(l.take n).length=n:=by simp; omega
 have hdl:(l.drop n).length=l.toArray.size-n:=by simp
 have inv0:HeadInv .any l.toArray n (Array.replicate l.toArray.size false) :=
  ⟨by simp,fun j oj _ hl=>(by rw [getD_replicate_false] at hl; cases hl),fun t _ ht=>getD_in (by simpa using ht) (getD_replicate_false _ _)⟩
 have H:=anyL_lex (md := .any) (g:=l.toArray.size-n) hsel hs hc hn (l.take n) 0 _ a (fun j hj=>by
  have hj':j<n:=by rw [htl] at hj; exact hj
  simp [hj']) (by simpa using htl) inv0 (by rw [htl]; exact hlex) h
 refine wp_region_any hm ?_
 have:=any_of_head (Q':=Q) (C:=C) (g:=l.toArray.size-n) (fun listed a' w' hw' hL=>by
  have:=wpAny_of_seq (md := .any) (Q':=Q) (l.drop n) n listed a' w' (fun j=>by simp [List.getElem?_drop]) (by rw [hdl]; exact hL.1) (hL.2 w' hw')
  rwa [hdl] at this) _ _ _ w.drew hC H
 rw [htl,show n+(l.toArray.size-n)=l.toArray.size by omega] at this
 exact this
theorem whole {id:Nat} {Q:Exit→Act→World→Prop} {a:Act} {w:World} {l:List Oper} (C:World→Prop) (hm:P.follows .mixedOrders=true) (hB:Region.lexB .any l.toArray=true) (hC:C w.drew)
 (h:wpQuiet P l.toArray C (fun a' => ∀ w',C w'→Q .normal a' w') l a):(Code.region id l.toArray true).wp P Q a w :=
 wp_region_quiet hm hB hC (by simpa using h)
theorem step {Q:Act→Prop} {a:Act} {o:Oper} {rest:List Oper} (v:Value) (hg:o.guard=none) (hrun : ∀ w,C w→o.quietAt P a C w v)
 (h:wpQuiet P ops C Q rest (a.put o.dst v)):wpQuiet P ops C Q (o::rest) a:=by
 simp only [wpQuiet,Region.wanted,hg,if_true]
 exact ⟨v,hrun,h⟩
theorem stepK {Q:Act→Prop} {a:Act} {o:Oper} {rest:List Oper} (hg:o.guard=none)
 (h : ∀ K:Act→Prop,(∀ a,wpQuiet P ops C Q rest a→K a) → ∃ v,(∀ w,C w→Oper.quietUpon P C w v ((execOp a.eval o).run P w))∧K (a.put o.dst v)):wpQuiet P ops C Q (o::rest) a:=by
 obtain ⟨v,hrun,hk⟩:=h _ (fun _ h=>h)
 exact step v hg hrun hk
end
@[go_sem] theorem setCell_drewN (w:World) (n:Nat) (a:Addr) (v:Value):(w.drewN n).setCell a v=(w.setCell a v).drewN n:=rfl
@[go_sem] theorem alloc_drewN (w:World) (n:Nat) (o:Obj):(w.drewN n).alloc o=(w.alloc o).drewN n:=rfl
end Rg
end Go.Proofs.YtfodadedkilgdaaGreatDoor
namespace Go.Proofs.YtfodadedkilgdaaGreatDoor
open Go.RowKit Bits
namespace Sha
set_option maxRecDepth 100000 in
set_option maxHeartbeats 400000 in
theorem big_any (x:BitVec 32) (p q r:Int) (w:World) (hp:0<p) (hp':p<32) (hq:0<q) (hq':q<32) (hr:0<r) (hr':r<32) :
 Calls Tryz.prog 214 #[.int .u32 (n32 x),.int .i64 p,.int .i64 q,.int .i64 r] w fun e w'=>e = .returned (.int .u32 (n32 (bg x p.toNat q.toNat r.toNat)))∧w=w':=by
 obtain ⟨p,rfl⟩:=Int.eq_ofNat_of_zero_le (Int.le_of_lt hp)
 obtain ⟨q,rfl⟩:=Int.eq_ofNat_of_zero_le (Int.le_of_lt hq)
 obtain ⟨r,rfl⟩:=Int.eq_ofNat_of_zero_le (Int.le_of_lt hr)
 simp only [Int.toNat_natCast]
 go_enter Tryz.func214,Tryz.ntmps214
 go_wp2_with (go_at_call 235; refine (turn_any _ _ _ (by omega) (by omega)).mono ?_; rintro e w' ⟨rfl,rfl⟩)
 go_ret
 exact ⟨rfl,rfl⟩
set_option maxRecDepth 100000 in
set_option maxHeartbeats 400000 in
theorem small_any (x:BitVec 32) (p q r:Int) (w:World) (hp:0<p) (hp':p<32) (hq:0<q) (hq':q<32) (hr:0<r) (hr':r<32) :
 Calls Tryz.prog 234 #[.int .u32 (n32 x),.int .i64 p,.int .i64 q,.int .i64 r] w fun e w'=>e = .returned (.int .u32 (n32 (sml x p.toNat q.toNat r.toNat))) ∧ ∃ m,w'=w.drewN m:=by
 obtain ⟨p,rfl⟩:=Int.eq_ofNat_of_zero_le (Int.le_of_lt hp)
 obtain ⟨q,rfl⟩:=Int.eq_ofNat_of_zero_le (Int.le_of_lt hq)
 obtain ⟨r,rfl⟩:=Int.eq_ofNat_of_zero_le (Int.le_of_lt hr)
 simp only [Int.toNat_natCast]
 go_enter Tryz.func234,Tryz.ntmps234
 go_wp2_with fail
 go_quiet ((go_at_call 235; exact Calls.quiet_of_same ((turn_any _ _ _ (by omega) (by omega)).mono fun _ _ h=>⟨h.1,h.2.symm⟩)))
 go_wp2
 go_ret
 exact ⟨rfl,_,rfl⟩
def cells (A:List (BitVec 32)):Array Value:=(A.map fun x=>Value.int .u32 (n32 x)).toArray
theorem cells_get (A:List (BitVec 32)) (j:Nat) (h:j<A.length):(cells A)[j]? = some (.int .u32 (n32 (rd A j))):=by
 simp [cells,rd,List.getD,h]
theorem cells_size (A:List (BitVec 32)):(cells A).size=A.length:=by simp [cells]
theorem cells_one (A:List (BitVec 32)):(cells A).all (·.oneCell')=true:=by
 rw [Array.all_eq_true_iff_forall_mem]; intro v hv; simp [cells] at hv; obtain ⟨x,_,rfl⟩:=hv; rfl
theorem cells_set (A:List (BitVec 32)) (j:Nat) (x:BitVec 32):(cells A).setIfInBounds j (.int .u32 (n32 x))=cells (A.set j x):=by
 simp [cells,List.map_set]
@[go_sem] theorem by32_wrap (b:UInt8):IntKind.u32.wrap (b.toNat:Int)=n32 (by32 b):=by
 have:=b.toNat_lt
 rw [IntKind.wrap_u32']; unfold n32 by32; rw [BitVec.toNat_ofNat]; omega
@[go_sem] theorem by32_mod (b:UInt8):(b.toNat:Int)%4294967296=n32 (by32 b):=by
 have:=by32_wrap b; rw [IntKind.wrap_u32'] at this; exact this
def zeros64:List (BitVec 32):=List.replicate 64 0
theorem cells_zero:cells zeros64=Array.replicate 64 (.int .u32 0):=by kernel_rfl
theorem info64:(Tryz.prog.info? 336).map (·.size)=some 64:=by kernel_rfl
set_option maxRecDepth 100000 in
set_option maxHeartbeats 400000 in
set_option maxRecDepth 100000 in
theorem spread_any (l:List UInt8) (b off len cap:Nat) (w:World) (hl:64≤l.length) (hlen:l.length=len) (hcap:len≤cap) (hm:cap≤9223372036854775807)
 (hc : ∀ k,k<len→w.cell? ⟨b,off+k,none⟩=some (.int .u8 ((bt l k).toNat:Int))) :
 Calls Tryz.prog 213 #[.slice (some ⟨b,off,none⟩) len cap] w fun e w'=>e = .returned (.agg (cells (spread l)))∧Below w.heap.size w w':=by
 have h64:64≤len:=by omega
 have h64':64≤cap:=by omega
 have H1:=Lib.hid hlen; clear hlen
 have H2:=Lib.hid hc; clear hc
 go_enter Tryz.func213,Tryz.ntmps213
 go_wp2
 go_loopw [9] (fun i wr => ∃ k:Nat,k≤64∧i = .int .i64 k ∧ ∃ n,wr=((w.alloc (.cells (cells zeros64) 336)).alloc (.cells (cells (spread1 l k)) 336)).drewN n) (fun i _=>64-(intOf i).toNat)
 case atStart=>exact ⟨0,by omega,rfl,0,by rw [show spread1 l 0=zeros64 from rfl,cells_zero]; rfl⟩
 case round =>
  obtain ⟨k,hk,rfl,n,rfl⟩:=hrel
  by_cases hlt:k<64
  ·have hcell:=H2.out k (by omega)
   have hrd:=cells_get (spread1 l k) (k / 4) (by rw [spread1_length]; omega)
   have hb:b<w.heap.size:=World.block_lt_of_cell? _ _ hcell
   go_wp2
   have q1:(0:Int)≤(k:Int) / 4:=by omega
   have q2:(k:Int) / 4<64:=by omega
   have q3:(k:Int)<(len:Int):=by omega
   have q4:((k:Int) / 4).toNat=k / 4:=by omega
   have q5:k / 4<64:=by omega
   refine Rg.tail (fun w' => ∃ n,w'=((w.alloc (.cells (cells zeros64) 336)).alloc (.cells (cells (spread1 l k)) 336)).drewN n) 14 (by kernel_rfl) (by kernel_rfl) ⟨n+1,rfl⟩ ?_; simp only [List.take_succ_cons,List.take_zero,List.drop_succ_cons,List.drop_zero]
   repeat (refine Rg.stepK rfl ?_; intro K hK; apply Exists.intro; refine ⟨?_,?_⟩; (focus (intro w' hw'; obtain ⟨nq,rfl⟩:=hw'; go_simp; (first | (fail) | ((try go_bits); (try go_simp); (try rfl))))); go_simp; refine hK _ ?_; clear hK K)
   refine wpQuiet_nil ?_; intro w' hw'; obtain ⟨nq,rfl⟩:=hw'
   go_wp2
   go_roundw
   case rel=>exact ⟨k+1,by omega,by go_num,nq,by simp only [spread1]; rw [← cells_set]⟩
   case measure=>simp [intOf]; omega
  ·obtain rfl:k=64:=by omega
   rw [show ((64:Nat):Int)=64 from rfl]
   go_wp2
   obtain ⟨A0,hA0⟩ : ∃ A,A=spread1 l 64:=⟨_,rfl⟩
   have hL0:A0.length=64:=by rw [hA0,spread1_length]
   have HA:=Lib.hid hA0
   rw [← hA0]
   clear hA0
   go_loopw [5] (fun i wr => ∃ k:Nat,k≤48∧i = .int .i64 (16+k) ∧ ∃ n,wr=((w.alloc (.cells (cells zeros64) 336)).alloc (.cells (cells (spread2 A0 k)) 336)).drewN n) (fun i _=>64-(intOf i).toNat)
   case atStart=>exact ⟨0,by omega,rfl,n,rfl⟩
   case round =>
    obtain ⟨k,hk,rfl,n,rfl⟩:=hrel
    by_cases hlt:k<48
    ·have hL:(spread2 A0 k).length=64:=by rw [spread2_length]; exact hL0
     have hrd1:=cells_get (spread2 A0 k) k (by omega)
     have hrd2:=cells_get (spread2 A0 k) (k+1) (by omega)
     have hrd3:=cells_get (spread2 A0 k) (k+9) (by omega)
     have hrd4:=cells_get (spread2 A0 k) (k+14) (by omega)
     have hrd5:=cells_get (spread2 A0 k) (16+k) (by omega)
     have e1:IntKind.i64.wrap (16+(k:Int)-16)=(k:Int):=by rw [IntWalk.i64_in _ (by omega)]; omega
     have e2:IntKind.i64.wrap (16+(k:Int)-15)=(k:Int)+1:=by rw [IntWalk.i64_in _ (by omega)]; omega
     have e3:IntKind.i64.wrap (16+(k:Int)-7)=(k:Int)+9:=by rw [IntWalk.i64_in _ (by omega)]; omega
     have e4:IntKind.i64.wrap (16+(k:Int)-2)=(k:Int)+14:=by rw [IntWalk.i64_in _ (by omega)]; omega
     have f1:(k:Int)<64∧(k:Int)+1<64∧(k:Int)+9<64∧(k:Int)+14<64:=by omega
     have f2:(0:Int)≤(k:Int)+1∧(0:Int)≤(k:Int)+9∧(0:Int)≤(k:Int)+14:=by omega
     have f3:((k:Int)+1).toNat=k+1∧((k:Int)+9).toNat=k+9∧((k:Int)+14).toNat=k+14:=by omega
     have f5:(0:Int)≤16+(k:Int):=by omega
     have f6:(16+(k:Int)).toNat=16+k:=by omega
     go_wp2
     refine Rg.tail (fun w' => ∃ n,w'=((w.alloc (.cells (cells zeros64) 336)).alloc (.cells (cells (spread2 A0 k)) 336)).drewN n) 23 (by kernel_rfl) (by kernel_rfl) ⟨n+1,rfl⟩ ?_; simp only [List.take_succ_cons,List.take_zero,List.drop_succ_cons,List.drop_zero]
     repeat (refine Rg.stepK rfl ?_; intro K hK; apply Exists.intro; refine ⟨?_,?_⟩; (focus (intro w' hw'; obtain ⟨nq,rfl⟩:=hw'; go_simp; (first | (go_at_call 234; exact Calls.quiet_of (small_any _ _ _ _ _ (by omega) (by omega) (by omega) (by omega) (by omega) (by omega))) | ((try go_bits); (try go_simp); (try rfl))))); go_simp; refine hK _ ?_; clear hK K)
     refine wpQuiet_nil ?_; intro w' hw'; obtain ⟨nq,rfl⟩:=hw'
     go_wp2
     go_roundw
     case rel=>exact ⟨k+1,by omega,by go_num,nq,by simp only [spread2,next1]; rw [← cells_set]⟩
     case measure=>simp [intOf]; omega
    ·obtain rfl:k=48:=by omega
     have hL:(spread2 A0 48).length=64:=by rw [spread2_length]; exact hL0
     have hi:(Tryz.prog.info? 336).map (·.size)=some (cells (spread2 A0 48)).size:=by rw [cells_size,hL]; exact info64
     have hz:(cells zeros64).size=(cells (spread2 A0 48)).size:=by rw [cells_size,cells_size,hL]; rfl
     have HF:Hid (spread l=spread2 A0 48):=by rw [HA.out]; exact Lib.hid rfl
     have H3:=Lib.hid hi; clear hi
     have H4:=Lib.hid hz; clear hz
     generalize hB:spread2 A0 48=B at *
     clear hB hL
     go_wp2_with (first | (refine wpList_load_row rfl 336 _ rfl (w.heap.size+1) rfl 336 (cells B) (0,0) _ (by exact Rg.heap_alloc_at _ _ _ (by simp)) Tryz.underlying336 rfl H3.out ?_) | (refine Rg.store_row rfl 336 _ _ rfl w.heap.size rfl 336 (cells zeros64) (cells B) rfl (by exact (Rg.heap_alloc_past _ _ _ (by simp)).trans (Rg.heap_alloc_at _ _ _ rfl)) H3.out H4.out (cells_one _) ?_))
     refine bodyPost_ret (v := .agg (cells B)) (results_cell_row (P:=Tryz.prog) rfl _ _ w.heap.size 336 (cells B) (0,0) _ rfl (setRow_heap _ _ (cells zeros64) _ 336 _ ((Rg.heap_alloc_past _ _ _ (by simp)).trans (Rg.heap_alloc_at _ _ _ rfl))) Tryz.underlying336 rfl H3.out) rfl ⟨by rw [HF.out],?_⟩
     exact Rg.below_setRow (Rg.below_drewN (((Below.refl _ _).alloc (Nat.le_refl _) _).alloc (by simp) _) _) (Nat.le_refl _) _
end Sha
end Go.Proofs.YtfodadedkilgdaaGreatDoor

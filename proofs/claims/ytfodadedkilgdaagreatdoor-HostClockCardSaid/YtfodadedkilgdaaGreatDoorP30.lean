/- A part of the proof. Plain; no condition. -/
import Derived.Test.YtfodadedkilgdaaGreatDoorP29
import Derived.Test.YtfodadedkilgdaaGreatDoorP28
import Derived.Test.YtfodadedkilgdaaGreatDoorP25
import Derived.Test.YtfodadedkilgdaaGreatDoorP27
namespace Go.Proofs.YtfodadedkilgdaaGreatDoor
set_option linter.unusedVariables false
set_option linter.unusedSimpArgs false
open Go.RowKit Bits Mem Sha
namespace Fld
open Ed (FP fpow)
def leB (n k:Nat):List UInt8:=(List.range k).map fun i=>UInt8.ofNat (n / 256^i%256)
theorem leB_length (n k:Nat):(leB n k).length=k:=by simp [leB]
theorem leB_succ (n k:Nat):leB n (k+1)=leB n k ++ [UInt8.ofNat (n / 256^k%256)]:=by simp [leB,List.range_succ]
theorem leB_set (n k:Nat) (hk:k<32):(leB n k++List.replicate (32-k) 0).set k (UInt8.ofNat (n / 256^k%256))=leB n (k+1)++List.replicate (32-(k+1)) 0:=by
 rw [List.set_append,if_neg (by rw [leB_length]; omega),leB_length,Nat.sub_self,show 32-k=(32-(k+1))+1 by omega,List.replicate_succ,List.set_cons_zero,leB_succ,List.append_assoc]
 rfl
theorem word_byte (l:List Nat) (hl:W4s l) (k:Nat):l.getD (k / 8) 0 / 2^(8*(k%8))%256=val l / 256^k%256:=by
 rw [word_val l _ hl.2,pow256,← Nat.div_div_eq_div_mul,pow2_8]
 generalize val l / WB^(k / 8)=m
 have h8:WB=256^(k%8)*256^(8-k%8):=by rw [← Nat.pow_add,show k%8+(8-k%8)=8 by omega]
 have hp:0<256^(k%8):=Nat.pow_pos (by decide)
 rw [h8,Nat.mod_mul,Nat.add_mul_div_left _ _ hp,Nat.div_eq_of_lt (Nat.mod_lt _ hp),Nat.zero_add,show 8-k%8=(7-k%8)+1 by omega,Nat.pow_succ,Nat.mod_mul_left_mod]
structure BtAt (w:World) (a:FP) (L:List UInt8) (g h:Nat) (wr:World):Prop where
 ra:wr.heap[g]? = some (.cells (el a) 173 (0,0))
 ro:wr.heap[g+1]? = some (.cells (bysA (List.replicate 32 0)) 22 (0,0))
 rb:wr.heap[h]? = some (.cells (bysA L) 22 (0,0))
 lt:g+1<h
 be:Below w.heap.size w wr
theorem BtAt.next {w wr:World} {a:FP} {L:List UInt8} {g h:Nat} (hh:BtAt w a L g h wr) (hg:g=w.heap.size) (L':List UInt8):BtAt w a L' g h (wr.setRow h (bysA L')):=by
 have hl:=hh.lt
 exact ⟨(setRow_otherE _ _ (by omega)).trans hh.ra,(setRow_otherE _ _ (by omega)).trans hh.ro,setRow_heap _ _ _ _ _ _ hh.rb,hl,Rg.below_setRow hh.be (by omega) _⟩
theorem bysA_setU (l:List UInt8) (i:Nat) (x:UInt8):(bysA l).setIfInBounds i (.int .u8 (x.toNat:Int))=bysA (l.set i x):=by
 simp [bysA,bys]
theorem bz32:bysA (List.replicate 32 0) = #[.int .u8 0,.int .u8 0,.int .u8 0,.int .u8 0,.int .u8 0,.int .u8 0,.int .u8 0,.int .u8 0,.int .u8 0,.int .u8 0,.int .u8 0,.int .u8 0,.int .u8 0,.int .u8 0,.int .u8 0,.int .u8 0,.int .u8 0,.int .u8 0,.int .u8 0,.int .u8 0,.int .u8 0,.int .u8 0,.int .u8 0,.int .u8 0,.int .u8 0,.int .u8 0,.int .u8 0,.int .u8 0,.int .u8 0,.int .u8 0,.int .u8 0,.int .u8 0]:=rfl
theorem info32E (L:List UInt8) (h:L.length=32):(Tryz.prog.info? 22).map (·.size)=some (bysA L).size:=by rw [bysA_size,h]; kernel_rfl
set_option maxRecDepth 100000 in
set_option maxHeartbeats 1000000 in
theorem bytes_el (a:FP) (w:World) (hF:FT w):Calls Tryz.prog 92 #[.agg (el a)] w fun e w'=>e = .returned (.agg (bysA (leB a.val 32)))∧Below w.heap.size w w':=by
 obtain ⟨w1,hw1⟩ : ∃ w1,w1=(w.alloc (.cells (el a) 173)).alloc (.cells (bysA (List.replicate 32 0)) 22):=⟨_,rfl⟩
 have hb1:Below w.heap.size w w1:=by rw [hw1]; exact ((Below.refl _ _).alloc (Nat.le_refl _) _).alloc (by simp) _
 have hr0:w1.heap[w.heap.size]? = some (.cells (el a) 173 (0,0)):=by rw [hw1]; exact (Rg.heap_alloc_past _ _ _ (by simp)).trans (Rg.heap_alloc_at w _ _ rfl)
 have hr1:w1.heap[w.heap.size+1]? = some (.cells (bysA (List.replicate 32 0)) 22 (0,0)):=by rw [hw1]; exact Rg.heap_alloc_at _ _ _ (by simp)
 have hs1:w1.heap.size=w.heap.size+1+1:=by rw [hw1]; simp
 have HF:=Lib.hid hF
 have HF1:=Lib.hid (hF.below hb1)
 have HB1:=Lib.hid hb1
 have HR0:=Lib.hid hr0
 have HR1:=Lib.hid hr1
 have HW1:=Lib.hid hw1
 have HS1:=Lib.hid hs1
 clear hb1 hr0 hr1 hw1 hF hs1
 go_enter Tryz.func92,Tryz.ntmps92
 go_upto_region 1 with fail
 rw [← bz32,← HW1.out]
 go_wp2_with (refine wpList_load_row rfl 173 _ rfl w.heap.size rfl 173 (el a) (0,0) _ HR0.out Tryz.underlying173 rfl (infoEl a) ?_)
 refine (rest_el a w1 HF1.out).mono ?_
 rintro e w2 ⟨rfl,hb⟩
 obtain ⟨w3,hw3⟩ : ∃ w3,w3=w2.setRow w.heap.size (el a):=⟨_,rfl⟩
 obtain ⟨w4,hw4⟩ : ∃ w4,w4=w3.alloc (.cells (bysA (List.replicate 32 0)) 22):=⟨_,rfl⟩
 have hs3:w3.heap.size=w2.heap.size:=by rw [hw3]; exact setRow_size _ _ _
 have hb4:Below w3.heap.size w3 w4:=by rw [hw4]; exact (Below.refl _ _).alloc (Nat.le_refl _) _
 have hb3:Below w.heap.size w w3:=by rw [hw3]; exact Rg.below_setRow (HB1.out.trans (hb.mono HB1.out.size)) (Nat.le_refl _) _
 have hr3:w3.heap[w.heap.size]? = some (.cells (el a) 173 (0,0)):=by rw [hw3]; exact setRow_heap _ _ _ _ _ _ (Rp.row_le hb HR0.out)
 have hr31:w3.heap[w.heap.size+1]? = some (.cells (bysA (List.replicate 32 0)) 22 (0,0)):=by rw [hw3]; exact (setRow_otherE _ _ (by omega)).trans (Rp.row_le hb HR1.out)
 have HST:Hid (BtAt w a (leB a.val 0++List.replicate (32-0) 0) w.heap.size w2.heap.size w4):=Lib.hid ⟨Rp.row_le hb4 hr3,Rp.row_le hb4 hr31,by rw [hw4,← hs3]; exact heap_alloc_new w3 _,by have:=hb.size; have:=HS1.out; omega,hb3.trans (hb4.mono hb3.size)⟩
 have HR2:=Lib.hid (Rp.row_le hb HR0.out)
 have HW3:=Lib.hid hw3
 have HW4:=Lib.hid hw4
 have HS3:=Lib.hid hs3
 clear hb hw3 hw4 hs3 hb4 hb3 hr3 hr31
 go_upto_region 2 with (refine Rg.store_row rfl 173 _ _ rfl w.heap.size rfl 173 (el a) (el a) rfl HR2.out (infoEl a) rfl (wN_one _) ?_)
 rw [← HW3.out]
 go_upto_region 3 with fail
 rw [← bz32,← HW4.out,HS3.out]
 obtain ⟨h,hh⟩ : ∃ h,h=w2.heap.size:=⟨_,rfl⟩
 rw [← hh] at HST ⊢
 obtain ⟨g,hg⟩ : ∃ g,g=w.heap.size:=⟨_,rfl⟩
 rw [← hg] at HST ⊢
 have HG:=Lib.hid hg
 clear hg hh HW3 HW4 HS3
 go_wp2_with fail
 go_loopw [7] (fun v wr => ∃ k:Nat,k≤32∧v = .int .i64 (k:Int)∧Hid (BtAt w a (leB a.val k++List.replicate (32-k) 0) g h wr)) (fun v _=>(32-intOf v).toNat)
 case atStart=>exact ⟨0,by omega,rfl,HST⟩
 case round =>
  clear HST
  obtain ⟨k,hk,rfl,HQ⟩:=hrel
  by_cases hlk:k<32
  ·have q1:(k:Int)<32:=by omega
   have q2:(0:Int)≤(k:Int) / 8:=by omega
   have q3:(k:Int) / 8<4:=by omega
   have q4:((k:Int) / 8).toNat=k / 8:=by omega
   have q5:(0:Int)≤(k:Int)%8:=by omega
   have q6:IntKind.i64.wrap (8*((k:Int)%8))=8*((k:Int)%8):=by rw [IntKind.wrap_i64]; omega
   have q7:(0:Int)≤8*((k:Int)%8):=by omega
   have q8:(8*((k:Int)%8)).toNat=8*(k%8):=by omega
   have hwb:=word_byte (words a.val 4) (W4s.words _) k
   rw [val_words 4 _ (by rw [W4_pow]; exact lt4 a)] at hwb
   obtain ⟨d,hd⟩ : ∃ d,d=(words a.val 4).getD (k / 8) 0:=⟨_,rfl⟩
   have hc:wr.cell? ⟨g,k / 8,none⟩=some (.int .u64 (d:Int)):=(cell_of_row _ _ _ _ _ _ HQ.out.ra).trans (by rw [hd]; exact wN_get _ _ (by rw [words_length]; omega))
   rw [← hd] at hwb
   obtain ⟨y,hy⟩ : ∃ y,y=UInt8.ofNat (a.val / 256^k%256):=⟨_,rfl⟩
   have hyn:(y.toNat:Int)=((d / 2^(8*(k%8))%256:Nat):Int):=by
    rw [hy,hwb,UInt8.toNat_ofNat']
    omega
   have hset:=leB_set a.val k hlk
   rw [← hy] at hset
   obtain ⟨L,hL⟩ : ∃ L,L=leB a.val k++List.replicate (32-k) 0:=⟨_,rfl⟩
   have hLl:L.length=32:=by rw [hL]; simp [leB_length]; omega
   rw [← hL] at HQ hset
   have q9:IntKind.u8.wrap ((d:Int) / (2:Int)^(8*(k%8)))=(y.toNat:Int):=by
    rw [hyn,IntKind.wrap_u8]
    have:(d:Int) / (2:Int)^(8*(k%8))=((d / 2^(8*(k%8)):Nat):Int):=by simp
    rw [this]
    omega
   have hcb:wr.cell? ⟨h,k,none⟩=some (.int .u8 ((bt L k).toNat:Int)):=by
    refine (cell_of_row _ _ _ _ _ _ HQ.out.rb).trans ?_
    unfold bysA bt
    simp [bys,List.getD,show k<L.length by omega]
   have hfz:wr.frozen? ⟨h,k,none⟩=false:=frozen_of_row _ _ _ _ _ HQ.out.rb
   obtain ⟨wn,hwn⟩ : ∃ wn,wn=wr.setCell ⟨h,k,none⟩ (.int .u8 (y.toNat:Int)):=⟨_,rfl⟩
   have HQN:Hid (BtAt w a (leB a.val (k+1)++List.replicate (32-(k+1)) 0) g h wn):=Lib.hid (by
    rw [← hset,hwn,setCell_eq_setRow wr h k _ _ _ _ HQ.out.rb,bysA_setU]
    exact HQ.out.next HG.out _)
   have HWN:=Lib.hid hwn
   clear hwb hd hy hyn hset hL hLl hwn HQ
   go_wp2_with fail
   exact ⟨⟨k+1,by omega,by congr 1,by rw [← HWN.out]; exact HQN⟩,by simp only [intOf]; omega⟩
  ·obtain rfl:k=32:=by omega
   have hn : ¬ ((32:Nat):Int)<32:=by omega
   obtain ⟨L,hL⟩ : ∃ L,L=leB a.val 32++List.replicate (32-32) 0:=⟨_,rfl⟩
   have hLe:L=leB a.val 32:=by rw [hL,Nat.sub_self,List.replicate_zero,List.append_nil]
   rw [← hL] at HQ
   have hLl:L.length=32:=by rw [hLe,leB_length]
   have HLE:=Lib.hid hLe
   have HIL:=Lib.hid (info32E L hLl)
   have HSZ:Hid ((bysA (List.replicate 32 0)).size=(bysA L).size):=Lib.hid (by rw [bysA_size,bysA_size,hLl]; rfl)
   clear hL hLe hLl
   go_wp2_with (first | (refine wpList_load_row rfl 22 _ rfl h rfl 22 (bysA L) (0,0) _ HQ.out.rb Tryz.underlying22 rfl HIL.out ?_) | (refine Rg.store_row rfl 22 _ _ rfl (g+1) rfl 22 (bysA (List.replicate 32 0)) (bysA L) rfl HQ.out.ro HIL.out HSZ.out (bysA_one _) ?_))
   refine bodyPost_ret (v := .agg (bysA L)) (results_cell_row (P:=Tryz.prog) rfl _ _ (g+1) 22 (bysA L) (0,0) _ rfl (setRow_heap _ _ _ _ 22 _ HQ.out.ro) Tryz.underlying22 rfl HIL.out) rfl ⟨by rw [HLE.out],Rg.below_setRow HQ.out.be (by have:=HG.out; omega) _⟩
end Fld
end Go.Proofs.YtfodadedkilgdaaGreatDoor
namespace Go.Proofs.YtfodadedkilgdaaGreatDoor
open Go.RowKit Bits Mem Sha
namespace Fld
open Ab Un
open Ed (FP fpow)
def encA (x y:FP):List UInt8:=if x.val%2=1 then (leB y.val 32).set 31 (bt (leB y.val 32) 31 ||| 128) else leB y.val 32
def zinv (z:FP):FP:=fpow z (P-2)
abbrev Bs (n:Nat):Type := {l:List UInt8 // l.length=n}
def y1 (n:Nat) (F:FP→Bs n):List U→U
 | [.fp a] => .bs n (F a)
 | _ => .bs n ⟨padB n [],padB_len _ _⟩
def c1 (F:UInt8→UInt8):List U→U
 | [.i8 a] => .i8 (F a)
 | _ => .i8 0
theorem y1_is (n:Nat) (F:FP→Bs n) (us:List U):srtU (y1 n F us)=2*n+11:=by unfold y1; split <;> rfl
theorem c1_is (F:UInt8→UInt8) (us:List U):srtU (c1 F us)=2:=by unfold c1; split <;> rfl
def one31 (l:List UInt8) (v:UInt8):List UInt8:=(List.range 32).map fun k=>if k=31 then v else l.getD k 0
theorem one31_eq {l:List UInt8} (h:l.length=32) (v:UInt8):one31 l v=l.set 31 v:=by
 refine List.ext_getElem (by simp [one31,h]) fun i h1 h2 => ?_
 have hi:i<l.length:=by simpa using h2
 simp only [one31,List.getElem_map,List.getElem_range,List.getElem_set]
 by_cases e:i=31
 · rw [if_pos e,if_pos e.symm]
 · rw [if_neg e,if_neg (Ne.symm e),List.getD_eq_getElem?_getD,List.getElem?_eq_getElem hi]; rfl
theorem or_i8 {y:World} (b:UInt8) (ox oy:Operand):((do eqGuard .or 5 ox oy (.int .u8 (b.toNat:Int)) (.int .u8 128); binOp .or 5 (.int .u8 (b.toNat:Int)) (.int .u8 128):Sem Value)).run Tryz.prog y = .ok (.int .u8 ((b ||| 128).toNat:Int)) y:=by
 have h:(IntKind.u8.wrap ((b.toNat%2^IntKind.u8.bits ||| 128%2^IntKind.u8.bits:Nat):Int))=((b ||| 128).toNat:Int):=by
  have e1:b.toNat%2^IntKind.u8.bits=b.toNat:=Nat.mod_eq_of_lt b.toNat_lt
  have e2:(b ||| 128).toNat=b.toNat ||| 128:=UInt8.toNat_or ..
  have e3:128%2^IntKind.u8.bits=128:=rfl
  have:=(b ||| 128).toNat_lt
  rw [e1,e3,← e2,IntKind.wrap_u8]
  omega
 rw [← h]
 simp [eqGuard,binOp,Op.intBits]
theorem encode_gen (f:FP→FP) (g:FP→Bs 32) (hf : ∀ a y,FT y→Calls Tryz.prog 91 #[.agg (el a)] y fun e w'=>e = .returned (.agg (el (f a)))∧Below y.heap.size y w') (hg : ∀ a y,FT y→Calls Tryz.prog 92 #[.agg (el a)] y fun e w'=>e = .returned (.agg (bysA (g a).1))∧Below y.heap.size y w')
 (x y z t:FP) (hz:z≠0) (w:World) (hF:ET w):Calls Tryz.prog 56 #[.agg (pt x y z t)] w fun e w'=>e = .returned (.agg (bysA (if (x*f z).val%2=1 then one31 (g (y*f z)).1 ((g (y*f z)).1.getD 31 0 ||| 128) else (g (y*f z)).1)))∧Below w.heap.size w w' :=
 (Ty.runs (Y:=⟨Tryz.prog,tiL,[],fldF [whF 0 0,⟨91,[.ag [5]],.ag [8]⟩,⟨92,[.ag [5]],.ag [9]⟩],[⟨kBin .or 5,[.c 2,.k (.ci .u8 128)],.c 10⟩],[]⟩) (R:=fldR [.fp x,.fp y,.fp z,.fp t] [(5,f1 f),(75,y1 32 g),(2,c1 (· ||| 128))])
  ⟨base,fldG_ok ⟨f1_is _,y1_is _ _,c1_is _,trivial⟩,trivial,fldF_ok hF.ft ⟨fun y' hb=>whole_pt x y z t hz y' (hF.below hb),fun y hb a=>hf a y (hF.below hb).ft,fun y hb a=>hg a y (hF.below hb).ft,trivial⟩,⟨fun y hb x a o hk hv=>kBin_ok hk hv (or_i8 x),trivial⟩⟩ Tryz.func56 [.ag (a4 0)]
  (L := [⟨[(decide ((x*f z).val%2=1),true)],fun _ => .agg (bysA (one31 (g (y*f z)).1 ((g (y*f z)).1.getD 31 0 ||| 128))),none⟩,⟨[(decide ((x*f z).val%2=1),false)],fun _ => .agg (bysA (g (y*f z)).1),none⟩]) (by kernel_rfl)).mono fun e w' h=>⟨by
  rcases h.1 with ⟨⟨h1,_⟩,h2⟩ | ⟨⟨h1,_⟩,h2⟩
  · rw [if_pos (of_decide_eq_true h1)]; exact h2
  · rw [if_neg (of_decide_eq_false h1)]; exact h2,h.2⟩
theorem encode_p (p:P4) (hz:p.z≠0) (w:World) (hF:ET w):Calls Tryz.prog 56 #[.agg (ptv p)] w fun e w'=>e = .returned (.agg (bysA (encA (p.x*zinv p.z) (p.y*zinv p.z))))∧Below w.heap.size w w':=by
 have:=encode_gen zinv (fun a=>⟨leB a.val 32,leB_length _ _⟩) (fun a y h=>inv_el a y h) (fun a y h=>bytes_el a y h) p.x p.y p.z p.t hz w hF
 rw [one31_eq (leB_length _ _)] at this
 exact this
end Fld
end Go.Proofs.YtfodadedkilgdaaGreatDoor
namespace Go.Proofs.YtfodadedkilgdaaGreatDoor
set_option linter.unusedVariables false
set_option linter.unusedSimpArgs false
open Go.RowKit Bits Mem Sha
namespace Fld
open Ed (FP)
theorem l_buildE {P:Program} {ops:Array Oper} {Q:Exit→Act→World→Prop} {a:Act} {w:World} {o:Oper} {rest:List Oper} (hg:o.guard=none) (t:TypeId) (parts:Array (Nat×Operand)) (ho:o.op = .build t parts) (cs:Array Value)
 (hb:P.built t (parts.map fun (i,x)=>(i,a.eval x)).toList=some cs) (h:wpList P ops Q rest (a.put o.dst (.agg cs)) w):wpList P ops Q (o::rest) a w :=
 wpList_plain hg fun _ hK=>by
  unfold Oper.wp execOp
  simp only [ho,Sem.run_bind,run_build w t _ cs hb,Result.andThen_ok,Sem.run_pure]
  exact hK _ _ h
end Fld
end Go.Proofs.YtfodadedkilgdaaGreatDoor
namespace Go.Proofs.YtfodadedkilgdaaGreatDoor
set_option linter.unusedVariables false
set_option linter.unusedSimpArgs false
open Go.RowKit Bits Mem Sha
namespace Fld
open Ab Un
open Ed (FP fpow)
theorem u8_high : ∀ x:Fin 256,bits .and .u8 (x.val:Int) 128=(if 128≤x.val then 128 else 0:Int):=by decide +kernel
theorem u8_low : ∀ x:Fin 256,bits .andNot .u8 (x.val:Int) 128=((x.val%128:Nat):Int):=by decide +kernel
theorem load_b32 {x:World} {b:Nat} {l:List UInt8} {t:TypeId} {f:Nat×Nat} (h:x.heap[b]? = some (.cells (bysA l) t f)) (hl:l.length=32):(Instr.loadAt 22 (.pointer (some ⟨b,0,none⟩))).run Tryz.prog x = .ok (.agg (bysA l)) x:=by
 have:=run_loadAt_mid x b 0 22 (bysA l).toList _ (fun j u hu=>by
  rw [Nat.zero_add,cell_of_row x b _ _ _ _ h]
  simpa using hu) Tryz.underlying22 rfl (by
  rw [Array.length_toList]; exact info32E l hl)
 simpa using this
def decO (L:List UInt8):Bool:=decide (128≤(bt L 31).toNat)
def decY (L:List UInt8):FP:=⟨leN L%2^255%P,Nat.mod_lt _ P_pos⟩
def decL (L:List UInt8):List UInt8:=L.set 31 (UInt8.ofNat ((bt L 31).toNat%128))
def decR (L:List UInt8):FP×Bool:=rootV (decY L*decY L-1) (Ed.dC*(decY L*decY L)+1)
def decX (L:List UInt8):FP:=if decide ((decR L).1.val%2=1)=decO L then (decR L).1 else -(decR L).1
def decB (L:List UInt8):Bool:=leB (decY L).val 32==decL L && ((decR L).2 && !(decO L && decide ((decR L).1=0)))
theorem decB_eq (L:List UInt8):decB L=(leB (decY L).val 32==decL L && ((decR L).2 && !(decO L && decide ((decR L).1=0)))):=by unfold decB; exact Eq.refl _
theorem decR_eq (L:List UInt8):decR L=rootV (decY L*decY L-1) (Ed.dC*(decY L*decY L)+1):=by unfold decR; exact Eq.refl _
theorem decY_val (L:List UInt8):(decY L).val=leN L%2^255%P:=by unfold decY; exact Eq.refl _
def decP (L:List UInt8):P4:=⟨decX L,decY L,1,decX L*decY L⟩
theorem ptv_dec (L:List UInt8):ptv (decP L)=pt (decX L) (decY L) 1 (decX L*decY L):=by unfold ptv decP; exact Eq.refl _
def asB (n:Nat) (u:U):Bs n:=match u with
 | .bs m l=>if h:m=n then h ▸ l else ⟨padB n [],padB_len _ _⟩
 | _=>⟨padB n [],padB_len _ _⟩
def asO (u:U):Bool:=match u with
 | .bo b=>b
 | _=>false
def g1 {α:Type} (r:U→α) (F:α→U):List U→U
 | [u]=>F (r u)
 | _=>F (r (.bo false))
def g2 {α β:Type} (r:U→α) (q:U→β) (F:α→β→U):List U→U
 | [u,v]=>F (r u) (q v)
 | _=>F (r (.bo false)) (q (.bo false))
theorem g1_is {α:Type} {r:U→α} {F:α→U} {s:Nat} (h : ∀ a,srtU (F a)=s) (us:List U):srtU (g1 r F us)=s:=by unfold g1; split <;> exact h _
theorem g2_is {α β:Type} {r:U→α} {q:U→β} {F:α→β→U} {s:Nat} (h : ∀ a b,srtU (F a b)=s) (us:List U):srtU (g2 r q F us)=s:=by unfold g2; split <;> exact h _ _
theorem u8_bits {y:World} {b:UInt8} {op:BinOp} {k:UInt8} (ho:op = .and∨op = .or∨op = .xor∨op = .andNot) {r:UInt8} (h:bits op .u8 (b.toNat:Int) (k.toNat:Int)=(r.toNat:Int)) (ox oy:Operand):((do eqGuard op 5 ox oy (.int .u8 (b.toNat:Int)) (.int .u8 (k.toNat:Int)); binOp op 5 (.int .u8 (b.toNat:Int)) (.int .u8 (k.toNat:Int)):Sem Value)).run Tryz.prog y = .ok (.int .u8 (r.toNat:Int)) y:=by
 rw [← h]
 rcases ho with rfl | rfl | rfl | rfl <;> simp [eqGuard,binOp] <;> go_simp
theorem guard_neq {P:Program} {y:World} {t:TypeId} {ox oy:Operand} {u v:Value} {b:Bool} (hg:(eqGuard .neq t ox oy u v).run P y = .ok () y) (h:(binOp .neq t u v).run P y = .ok (.bool b) y):((do eqGuard .neq t ox oy u v; binOp .neq t u v:Sem Value)).run P y = .ok (.bool b) y:=by rw [Sem.run_bind,hg]; exact h
theorem ne_i8 {y:World} (b:UInt8) (ox oy:Operand):((do eqGuard .neq 5 ox oy (.int .u8 (b.toNat:Int)) (.int .u8 0); binOp .neq 5 (.int .u8 (b.toNat:Int)) (.int .u8 0):Sem Value)).run Tryz.prog y = .ok (.bool (decide (b≠0))) y:=by
 refine guard_neq (guard_int ..) ?_
 have h:decide (b≠0) = !((b.toNat:Int)==0):=by
  rw [Bool.eq_iff_iff]
  simp only [ne_eq,decide_eq_true_eq,Bool.not_eq_true',beq_eq_false_iff_ne]
  constructor
  · intro h e; exact h (UInt8.toNat_inj.1 (by simpa using e))
  · intro h e; exact h (by rw [e]; rfl)
 rw [h]
 rfl
theorem ne_b32 {y:World} (a b:Bs 32) (ox oy:Operand):((do eqGuard .neq 22 ox oy (.agg (bysA a.1)) (.agg (bysA b.1)); binOp .neq 22 (.agg (bysA a.1)) (.agg (bysA b.1)):Sem Value)).run Tryz.prog y = .ok (.bool (a.1 != b.1)) y :=
 guard_neq (Ref.run_guard32 ..) (neq_of (Ref.run_equal32 a.1 b.1 y a.2 b.2) rfl)
theorem ne_bo {y:World} (a b:Bool) (ox oy:Operand):((do eqGuard .neq 4 ox oy (.bool a) (.bool b); binOp .neq 4 (.bool a) (.bool b):Sem Value)).run Tryz.prog y = .ok (.bool (a != b)) y :=
 guard_neq (by rfl) (run_neq_bool y 4 a b Tryz.underlying4)
def dec7 (N K O Z M:Bool) (A B E:Value):List Ou := [⟨[(N,true)],fun _=>E,none⟩,⟨[(match K with | true=>false | false=>true,true),(N,false)],fun _=>E,none⟩,⟨[(Z,true),(O,true),(match K with | true=>false | false=>true,false),(N,false)],fun _=>E,none⟩,⟨[(M,true),(Z,false),(O,true),(match K with | true=>false | false=>true,false),(N,false)],fun _=>B,none⟩,⟨[(M,false),(Z,false),(O,true),(match K with | true=>false | false=>true,false),(N,false)],fun _=>A,none⟩,
 ⟨[(M,true),(O,false),(match K with | true=>false | false=>true,false),(N,false)],fun _=>B,none⟩,⟨[(M,false),(O,false),(match K with | true=>false | false=>true,false),(N,false)],fun _=>A,none⟩]
theorem dec7_ok {N K O Z M:Bool} {A B E:Value} {w:World} {e:Ending} {w':World} (h:OuP w e w' (dec7 N K O Z M A B E)):e = .returned (if !N && (K && !(O && Z)) then (if M then B else A) else E):=by
 cases N <;> cases K <;> cases O <;> cases Z <;> cases M <;> simp [dec7,OuP,Ou.P,pcP] at h ⊢ <;> exact h
abbrev hi8 (b:UInt8):UInt8:=if 128≤b.toNat then 128 else 0
abbrev lo8 (b:UInt8):UInt8:=UInt8.ofNat (b.toNat%128)
def decG (f:Bs 32→FP) (g:FP→Bs 32) (r1:FP→FP→FP) (r2:FP→FP→Bool):List (Nat×(List U→U)) := [(5,g1 (asB 32) fun l => .fp (f l)),(75,y1 32 g),(2,c1 hi8),(0,g1 unB fun b => .bo (decide (b≠0))),(2,c1 lo8),(0,g2 (asB 32) (asB 32) fun a b => .bo (a.1 != b.1)),(5,f2 r1),(0,b2 r2),(5,f2 fun a _=>a),(5,f2 fun _ b=>b),(0,g2 asO asO fun a b => .bo (a != b))]
set_option maxRecDepth 100000 in
theorem decode_gen (f:Bs 32→FP) (g:FP→Bs 32) (r1:FP→FP→FP) (r2:FP→FP→Bool) (hf : ∀ l y,FT y→Calls Tryz.prog 242 #[.agg (bysA l.1)] y fun e w'=>e = .returned (.agg (el (f l)))∧Below y.heap.size y w') (hg : ∀ a y,FT y→Calls Tryz.prog 92 #[.agg (el a)] y fun e w'=>e = .returned (.agg (bysA (g a).1))∧Below y.heap.size y w')
 (hr : ∀ a b y,ET y→Calls Tryz.prog 243 #[.agg (el a),.agg (el b)] y fun e w'=>e = .returned (.tuple #[.agg (el (r1 a b)),.bool (r2 a b)])∧Below y.heap.size y w') (l:List UInt8) (hl:l.length=32) (Y dC:FP) (hY:Y=f ⟨l,hl⟩) (w:World) (hF:ET w) (hd:GRow w 10 (el dC)) :
 Calls Tryz.prog 232 #[.agg (bysA l)] w fun e w'=>OuP w e w' (dec7 ((g Y).1 != one31 l (lo8 (l.getD 31 0))) (r2 (Y*Y-1) (dC*(Y*Y)+1)) (decide (hi8 (l.getD 31 0)≠0)) (decide (r1 (Y*Y-1) (dC*(Y*Y)+1)=0)) (decide ((r1 (Y*Y-1) (dC*(Y*Y)+1)).val%2=1) != decide (hi8 (l.getD 31 0)≠0))
  (.tuple #[.agg (pt (r1 (Y*Y-1) (dC*(Y*Y)+1)) Y 1 (r1 (Y*Y-1) (dC*(Y*Y)+1)*Y)),.int .i64 0]) (.tuple #[.agg (pt (-r1 (Y*Y-1) (dC*(Y*Y)+1)) Y 1 (-r1 (Y*Y-1) (dC*(Y*Y)+1)*Y)),.int .i64 0]) (.tuple #[.agg (pt 0 0 0 0),.int .i64 15]))∧Below w.heap.size w w':=by
 subst hY
 exact Ty.runs (Y:=⟨Tryz.prog,tiL,[(10,[.at 1])],fldF [⟨242,[.ag [75]],.ag [8]⟩,⟨92,[.ag [5]],.ag [9]⟩,⟨243,[.ag [5],.ag [5]],.t2 (.ag [14]) (.b 15)⟩,⟨136,[],.ag [6]⟩,⟨86,[.ag [5],.ag [5]],.ag [16,17,6,2]⟩],
  [⟨kBin .and 5,[.c 2,.k (.ci .u8 128)],.c 10⟩,⟨kBin .neq 5,[.c 2,.k (.ci .u8 0)],.b 11⟩,⟨kBin .andNot 5,[.c 2,.k (.ci .u8 128)],.c 12⟩,⟨kBin .neq 22,[.ag [75],.ag [75]],.b 13⟩,⟨kBin .neq 4,[.c 0,.c 0],.b 18⟩],[]⟩) (R:=fldR [.bs 32 ⟨l,hl⟩,.fp dC] (decG f g r1 r2))
  ⟨base,fldG_ok ⟨g1_is fun _=>rfl,y1_is _ _,c1_is _,g1_is fun _=>rfl,c1_is _,(fun us=>g2_is (r:=asB 32) (q:=asB 32) (F:=fun a b => .bo (a.1 != b.1)) (fun _ _=>rfl) us),f2_is _,b2_is _,f2_is _,f2_is _,(fun us=>g2_is (r:=asO) (q:=asO) (F:=fun a b => .bo (a != b)) (fun _ _=>rfl) us),trivial⟩,⟨hd,trivial⟩,fldF_ok hF.ft ⟨fun y hb l h=>hf ⟨l,h⟩ y (hF.below hb).ft,fun y hb a=>hg a y (hF.below hb).ft,fun y hb a b=>hr a b y (hF.below hb),fun y hb=>one_el y (hF.below hb),fun y hb a b=>of_el a b y (hF.below hb),trivial⟩,
   ⟨fun y hb x a o hk hv=>kBin_ok hk hv (u8_bits (k:=128) (r:=hi8 x) (.inl rfl) (by have:=u8_high ⟨x.toNat,x.toNat_lt⟩; refine this.trans ?_; unfold hi8; dsimp only; split <;> rfl)),fun y hb x a o hk hv=>kBin_ok hk hv (ne_i8 x),fun y hb x a o hk hv=>kBin_ok hk hv (u8_bits (k:=128) (r:=lo8 x) (.inr (.inr (.inr rfl))) (by have:=u8_low ⟨x.toNat,x.toNat_lt⟩; refine this.trans ?_; unfold lo8; rw [UInt8.toNat_ofNat_of_lt' (by show _%128<256; omega)])),fun y hb l h l' h' a o hk hv=>kBin_ok hk hv (ne_b32 ⟨l,h⟩ ⟨l',h'⟩),fun y hb p q a o hk hv=>kBin_ok hk hv (ne_bo p q),trivial⟩⟩ Tryz.func232 [.ag [.at 0]] (by kernel_rfl)
theorem hi8_ne (b:UInt8):decide (hi8 b≠0)=decide (128≤b.toNat):=by
 unfold hi8
 by_cases h:128≤b.toNat
 · rw [if_pos h,decide_eq_true h]; rfl
 · rw [if_neg h,decide_eq_false h]; rfl
theorem decode_mid (f:Bs 32→FP) (g:FP→Bs 32) (r1:FP→FP→FP) (r2:FP→FP→Bool) (hf : ∀ l y,FT y→Calls Tryz.prog 242 #[.agg (bysA l.1)] y fun e w'=>e = .returned (.agg (el (f l)))∧Below y.heap.size y w') (hg : ∀ a y,FT y→Calls Tryz.prog 92 #[.agg (el a)] y fun e w'=>e = .returned (.agg (bysA (g a).1))∧Below y.heap.size y w')
 (hr : ∀ a b y,ET y→Calls Tryz.prog 243 #[.agg (el a),.agg (el b)] y fun e w'=>e = .returned (.tuple #[.agg (el (r1 a b)),.bool (r2 a b)])∧Below y.heap.size y w') (L:List UInt8) (hL:L.length=32) (dC Y r X:FP) (k:Bool) (B C:List UInt8) (w:World) (hF:ET w) (hd:GRow w 10 (el dC)) (hY:Y=f ⟨L,hL⟩) (hr1:r=r1 (Y*Y-1) (dC*(Y*Y)+1)) (hk:k=r2 (Y*Y-1) (dC*(Y*Y)+1)) (hB:B=(g Y).1) (hC:C=decL L) (hX:X=if decide (r.val%2=1)=decO L then r else -r) :
 Calls Tryz.prog 232 #[.agg (bysA L)] w fun e w'=>e = .returned (if B==C && (k && !(decO L && decide (r=0))) then .tuple #[.agg (pt X Y 1 (X*Y)),.int .i64 0] else .tuple #[.agg (pt 0 0 0 0),.int .i64 15])∧Below w.heap.size w w':=by
 refine (decode_gen f g r1 r2 hf hg hr L hL Y dC hY w hF hd).mono fun e w' h=>⟨?_,h.2⟩
 have h1:=dec7_ok h.1
 have e3:L.set 31 (lo8 (L.getD 31 0))=C:=hC.symm
 have e4:decide (128≤(L.getD 31 0).toNat)=decO L:=rfl
 rw [hi8_ne,one31_eq hL,← hr1,← hk,← hB,e3,e4] at h1
 rw [h1,hX,bne,Bool.not_not]
 generalize (B==C && (k && !(decO L && decide (r=0))))=q
 cases q with
 | false=>rfl
 | true=>cases decide (r.val%2=1) <;> cases decO L <;> rfl
theorem decode_p (L:List UInt8) (hL:L.length=32) (w:World) (hF:ET w):Calls Tryz.prog 232 #[.agg (bysA L)] w fun e w'=>e = .returned (if decB L then .tuple #[.agg (ptv (decP L)),.int .i64 0] else .tuple #[.agg (pt 0 0 0 0),.int .i64 15])∧Below w.heap.size w w':=by
 rw [decB_eq,ptv_dec]
 exact decode_mid (fun l=>decY l.1) (fun a=>⟨leB a.val 32,leB_length _ _⟩) (fun a b=>(rootV a b).1) (fun a b=>(rootV a b).2) (fun l y h=>of_bytes l.1 l.2 _ (decY_val _) y h) (fun a y h=>bytes_el a y h) (fun a b y h=>root_el a b y h) L hL Ed.dC (decY L) (decR L).1 (decX L) (decR L).2 (leB (decY L).val 32) (decL L) w hF hF.gc rfl (by rw [decR_eq]) (by rw [decR_eq]) rfl rfl (by unfold decX; exact Eq.refl _)
end Fld
end Go.Proofs.YtfodadedkilgdaaGreatDoor
namespace Go.Proofs.YtfodadedkilgdaaGreatDoor
open Go.RowKit Bits Mem Sha
namespace Fld
open Ed (FP fpow)
theorem ring_rt2 (u v x i:FP) (hi:i*i = -1) (h:v*(x*x) = -u):v*(x*i*(x*i))=u:=by grind
theorem ring_on (x y d:FP) (h:(d*(y*y)+1)*(x*x)=y*y-1):y*y-x*x=1+d*(x*x)*(y*y):=by grind
theorem ring_one (x:FP):x=x*1:=by grind
theorem ring_neg (v x u:FP) (h:v*(x*x)=u):v*(-x * -x)=u:=by grind
theorem root_ok (u v:FP) (h:(rootV u v).2=true):v*((rootV u v).1*(rootV u v).1)=u:=by
 have e:rootV u v=rootE u (rootX u v) (v*(rootX u v*rootX u v)):=by unfold rootV; exact Eq.refl _
 generalize rootX u v=x at e
 rw [e] at h ⊢
 clear e
 unfold rootE at h ⊢
 by_cases h1:v*(x*x)=u
 · rw [if_pos h1]; exact h1
 ·rw [if_neg h1] at h ⊢
  by_cases h2:v*(x*x) = -u
  ·rw [if_pos h2]
   exact ring_rt2 u v x Ed.iC Ed.fl.ii h2
  ·rw [if_neg h2] at h
   cases h
theorem dec_on (L:List UInt8) (h:decB L=true):Ed.On Ed.dC (decX L) (decY L):=by
 have h2:(decR L).2=true:=by
  rw [decB_eq] at h
  revert h
  cases leB (decY L).val 32==decL L <;> cases (decR L).2 <;> simp
 have hr:=decR_eq L
 have hk:=root_ok (decY L*decY L-1) (Ed.dC*(decY L*decY L)+1)
 rw [← hr] at hk
 have hk:=hk h2
 have hx:(Ed.dC*(decY L*decY L)+1)*(decX L*decX L)=decY L*decY L-1:=by
  unfold decX
  generalize (decR L).1=x at *
  split
  · exact hk
  · exact ring_neg _ _ _ hk
 unfold Ed.On
 generalize decX L=x at *
 generalize decY L=y at *
 exact ring_on _ _ _ hx
theorem Good.dec (L:List UInt8) (h:decB L=true):Good (decP L) (decX L) (decY L):=by
 refine ⟨dec_on L h,?_⟩
 unfold decP
 exact ⟨by show (1:FP)≠0; decide,ring_one _,ring_one _,ring_one _⟩
end Fld
end Go.Proofs.YtfodadedkilgdaaGreatDoor
namespace Go.Proofs.YtfodadedkilgdaaGreatDoor
set_option linter.unusedVariables false
set_option linter.unusedSimpArgs false
open Go.RowKit Bits Mem Sha
namespace Fld
open Ed (FP fpow)
def baseP:P4:=⟨bX,bY,1,bX*bY⟩
theorem base_on:Ed.On Ed.dC bX bY:=by
 unfold Ed.On
 apply Fin.ext
 decide +kernel
theorem Good.base:Good baseP bX bY:=by
 refine ⟨base_on,?_⟩
 unfold baseP
 exact ⟨by show (1:FP)≠0; decide,ring_one _,ring_one _,ring_one _⟩
theorem ptv_base:ptv baseP=pt bX bY 1 (bX*bY):=by unfold ptv baseP; exact Eq.refl _
set_option maxRecDepth 100000 in
set_option maxHeartbeats 400000 in
theorem base_p (w:World) (hF:ET w):Calls Tryz.prog 53 #[] w fun e w'=>e = .returned (.agg (ptv baseP))∧Below w.heap.size w w':=by
 obtain ⟨w1,hw1⟩ : ∃ w1,w1=w.alloc (.cells (pt 0 0 0 0) 175):=⟨_,rfl⟩
 have hb1:Below w.heap.size w w1:=by rw [hw1]; exact (Below.refl _ _).alloc (Nat.le_refl _) _
 have HR1:Hid (w1.heap[w.heap.size]? = some (.cells (pt 0 0 0 0) 175 (0,0))):=Lib.hid (by rw [hw1]; exact Rg.heap_alloc_at _ _ _ rfl)
 have HF1:=Lib.hid (hF.below hb1)
 obtain ⟨tx,fx,hx⟩:=(hF.below hb1).gx
 obtain ⟨ty,fy,hy⟩:=(hF.below hb1).gy
 have HX:=Lib.hid hx
 have HY:=Lib.hid hy
 obtain ⟨vx,hvx⟩ : ∃ vx,vx=bX:=⟨_,rfl⟩
 obtain ⟨vy,hvy⟩ : ∃ vy,vy=bY:=⟨_,rfl⟩
 have HPB:Hid (ptv baseP=pt vx vy 1 (vx*vy)):=Lib.hid (by rw [ptv_base,hvx,hvy])
 rw [← hvx] at HX
 rw [← hvy] at HY
 obtain ⟨m,hm⟩ : ∃ m,m=vx*vy:=⟨_,rfl⟩
 have HOF:Hid (Calls Tryz.prog 86 #[.agg (el vx),.agg (el vy)] w1 fun e w'=>e = .returned (.agg (pt vx vy 1 m))∧Below w1.heap.size w1 w'):=Lib.hid (by rw [hm]; exact of_el vx vy w1 HF1.out)
 rw [← hm] at HPB
 have HSP:Hid ((pt 0 0 0 0).size=(pt vx vy 1 m).size):=Lib.hid (by simp only [pt_size])
 have HB1:=Lib.hid hb1
 have HW1:=Lib.hid hw1
 rw [HPB.out]
 clear hw1 hb1 hF hx hy hvx hvy hm
 go_enter Tryz.func53,Tryz.ntmps53
 go_upto_region 1 with fail
 rw [pt_zero,← HW1.out]
 go_wp2_with (first | (refine l_loadP rfl _ _ rfl (.pointer (some ⟨0,0,none⟩)) rfl (.agg (el vx)) (load_el HX.out) ?_) | (refine l_loadP rfl _ _ rfl (.pointer (some ⟨1,0,none⟩)) rfl (.agg (el vy)) (load_el HY.out) ?_))
 refine HOF.out.mono ?_
 rintro e w2 ⟨rfl,hb⟩
 have HB2:=Lib.hid (HB1.out.trans (hb.mono HB1.out.size))
 have HR2:=Lib.hid (Rp.row_le hb HR1.out)
 clear hb
 go_wp2_with (refine Rg.store_row rfl 175 _ _ rfl w.heap.size rfl 175 (pt 0 0 0 0) (pt vx vy 1 m) rfl HR2.out (infoPt vx vy 1 m) HSP.out (wN_one _) ?_)
 refine bodyPost_ret (v := .agg (pt vx vy 1 m)) (results_cell_row (P:=Tryz.prog) rfl _ _ w.heap.size 175 (pt vx vy 1 m) (0,0) _ rfl (setRow_heap _ _ _ _ 175 _ HR2.out) Tryz.underlying175 rfl (infoPt vx vy 1 m)) rfl ⟨rfl,Rg.below_setRow HB2.out (Nat.le_refl _) _⟩
end Fld
end Go.Proofs.YtfodadedkilgdaaGreatDoor
namespace Go.Proofs.YtfodadedkilgdaaGreatDoor
set_option linter.unusedVariables false
set_option linter.unusedSimpArgs false
open Go.RowKit Bits
namespace Sca
open Fld hiding SubAt SubAt.start sub_any infoE
theorem infoE:(Tryz.prog.info? 171).map (·.size)=some 4:=by kernel_rfl
structure SubAt (w:World) (a b D:List Nat) (g:Nat) (wr:World):Prop where
 ra:wr.heap[g]? = some (.cells (wN a) 171 (0,0))
 rb:wr.heap[g+1]? = some (.cells (wN b) 171 (0,0))
 rz:wr.heap[g+1+1]? = some (.cells (wN [0,0,0,0]) 171 (0,0))
 rd:wr.heap[g+1+1+1]? = some (.cells (wN D) 171 (0,0))
 be:Below w.heap.size w wr
theorem SubAt.start (w:World) (a b:List Nat):SubAt w a b [0,0,0,0] w.heap.size ((((w.alloc (.cells (wN a) 171)).alloc (.cells (wN b) 171)).alloc (.cells (wN [0,0,0,0]) 171)).alloc (.cells (wN [0,0,0,0]) 171)):=by
 refine ⟨?_,?_,?_,?_,(((((Below.refl _ _).alloc (Nat.le_refl _) _).alloc (by simp) _).alloc (by simp; omega) _).alloc (by simp; omega) _)⟩
 · exact (Rg.heap_alloc_past _ _ _ (by simp; omega)).trans ((Rg.heap_alloc_past _ _ _ (by simp; omega)).trans ((Rg.heap_alloc_past _ _ _ (by simp)).trans (Rg.heap_alloc_at _ _ _ rfl)))
 · exact (Rg.heap_alloc_past _ _ _ (by simp)).trans ((Rg.heap_alloc_past _ _ _ (by simp)).trans (Rg.heap_alloc_at _ _ _ (by simp)))
 · exact (Rg.heap_alloc_past _ _ _ (by simp)).trans (Rg.heap_alloc_at _ _ _ (by simp))
 · exact Rg.heap_alloc_at _ _ _ (by simp)
set_option maxRecDepth 100000 in
set_option maxHeartbeats 2000000 in
theorem sub_any (a b:List Nat) (w:World) (ha:a.length=4) (hb:b.length=4) :
 Calls Tryz.prog 97 #[.agg (wN a),.agg (wN b)] w fun e w'=>e = .returned (.tuple #[.agg (wN (subC a b 0).1),.int .u64 (((subC a b 0).2:Nat):Int)])∧Below w.heap.size w w':=by
 have HA:=Lib.hid ha
 have HB:=Lib.hid hb
 have HST:=Lib.hid (SubAt.start w a b)
 clear ha hb
 go_enter Tryz.func97,Tryz.ntmps97
 go_wp2_with fail
 rw [← zN]
 obtain ⟨w0,hw0⟩ : ∃ w0,w0=((((w.alloc (.cells (wN a) 171)).alloc (.cells (wN b) 171)).alloc (.cells (wN [0,0,0,0]) 171)).alloc (.cells (wN [0,0,0,0]) 171)):=⟨_,rfl⟩
 rw [← hw0] at HST ⊢
 clear hw0
 go_loopw [7,9] (fun u i wr => ∃ k:Nat,k≤4∧i = .int .i64 k∧u = .int .u64 (((subK a b k).2:Nat):Int)∧Hid (SubAt w a b (subK a b k).1 w.heap.size wr)) (fun _ i _=>4-(intOf i).toNat)
 case atStart=>exact ⟨0,by omega,rfl,rfl,HST⟩
 case round =>
  clear HST
  obtain ⟨k,hk,rfl,rfl,HR⟩:=hrel
  by_cases hlt:k<4
  ·have g1:=wN_get a k (by rw [HA.out]; exact hlt)
   have g2:=wN_get b k (by rw [HB.out]; exact hlt)
   have hle:=subK_le a b k
   have hD:=subK_length a b k
   obtain ⟨D,hDe⟩ : ∃ D,D=(subK a b k).1:=⟨_,rfl⟩
   obtain ⟨u,hue⟩ : ∃ u,u=(subK a b k).2:=⟨_,rfl⟩
   obtain ⟨m1,hxe⟩ : ∃ m1,m1=a.getD k 0:=⟨_,rfl⟩
   obtain ⟨m2,hye⟩ : ∃ m2,m2=b.getD k 0:=⟨_,rfl⟩
   rw [← hue] at hle
   rw [← hDe] at hD HR
   rw [← hxe] at g1
   rw [← hye] at g2
   have HN:Hid (subK a b (k+1)=(D.set k (sd m1 m2 u),su m1 m2 u)):=Lib.hid (by rw [hDe,hue,hxe,hye]; rfl)
   rw [← hue]
   have hcall : ∀ w:World,(callFunc 144 #[.int .u64 (m1:Int),.int .u64 (m2:Int),.int .u64 (u:Int)]).run Tryz.prog w = .ok (.value (.tuple #[.int .u64 ((sd m1 m2 u:Nat):Int),.int .u64 ((su m1 m2 u:Nat):Int)])) w:=fun w=>Ab.sub64_run m1 m2 u hle w
   have hgl:=(Array.getElem?_eq_some_iff.1 HR.out.rd).1
   obtain ⟨g,hg⟩ : ∃ g,g=w.heap.size:=⟨_,rfl⟩
   rw [← hg] at HR hgl ⊢
   have hga:(fun j=>j<wr.heap.size∧j≠g+1+1+1) g:=by dsimp only; omega
   have hgb:(fun j=>j<wr.heap.size∧j≠g+1+1+1) (g+1):=by dsimp only; omega
   have HGA:=Lib.hid hga
   have HGB:=Lib.hid hgb
   have HG:=Lib.hid hg
   have ca : ∀ x':World,(x'.heap[g]? = wr.heap[g]?)→x'.cell? ⟨g,k,none⟩=some (.int .u64 (m1:Int)):=fun x' h=>(cell_of_row _ _ _ _ _ _ (h.trans HR.out.ra)).trans g1
   have cb : ∀ x':World,(x'.heap[g+1]? = wr.heap[g+1]?)→x'.cell? ⟨g+1,k,none⟩=some (.int .u64 (m2:Int)):=fun x' h=>(cell_of_row _ _ _ _ _ _ (h.trans HR.out.rb)).trans g2
   have HCA:=Lib.hid ca
   have HCB:=Lib.hid cb
   have q1:(k:Int)<4:=by omega
   have HD:=Lib.hid hD
   have HGL:=Lib.hid hgl
   clear hDe hue hxe hye hD hle g1 g2 hga hgb hg ca cb
   go_wp2_with fail
   refine Re.region (fun j=>j<wr.heap.size∧j≠g+1+1+1) 14 [Re.S 13 [] [] (· = g+1+1+1) (fun _=>undef) (fun _ _ y'=>y'.heap[g+1+1+1]? = some (.cells (wN (D.set k (sd m1 m2 u))) 171 (0,0)))] [13] (by kernel_rfl) (Re.own_one (i:=13) HGL.out (by intro s hs; simp only [List.mem_cons,List.not_mem_nil,or_false] at hs; subst hs; exact .inr ⟨rfl,rfl⟩)) (by kernel_rfl) ?_; intro p; simp only [List.take,List.drop]
   iterate 13 (refine Re.rK rfl rfl ?_; intro K hK; apply Exists.intro; refine ⟨?_,?_⟩; (focus (intro x hx; have e1:=HCA.out x ((Re.undrew hx).block _ (.inl HGA.out));have e2:=HCB.out x ((Re.undrew hx).block _ (.inl HGB.out)); go_simp; (first | (fail) | ((try go_bits); (try go_simp); (try rfl))))); go_simp; refine hK _ ?_; clear hK K)
   refine Re.cK rfl rfl rfl ?_ ?_
   ·intro x Fs hx ho hg' K hK
    have h8:x.heap[g+1+1+1]? = some (.cells (wN D) 171 (0,0)):=(ho _ rfl).trans HR.out.rd
    have e1:x.cell? ⟨g+1+1+1,k,none⟩=some (.int .u64 ((D.getD k 0:Nat):Int)):=(cell_of_row _ _ _ _ _ _ h8).trans (wN_get D k (by rw [HD.out]; exact hlt))
    have e2:x.frozen? ⟨g+1+1+1,k,none⟩=false:=frozen_of_row _ _ _ _ _ h8
    have H8:=Lib.hid h8
    clear h8 hx ho hg'
    go_wp2_with fail
    have he:x.setCell ⟨g+1+1+1,k,none⟩ (.int .u64 ((sd m1 m2 u:Nat):Int))=x.setRow (g+1+1+1) (wN (D.set k (sd m1 m2 u))):=by rw [setCell_eq_setRow x (g+1+1+1) k _ _ _ _ H8.out,wN_set]
    rw [he]
    have hgr:=grownBy_setRowE x (g+1+1+1) (wN (D.set k (sd m1 m2 u)))
    have h8':=setRow_heap x (g+1+1+1) _ (wN (D.set k (sd m1 m2 u))) _ _ H8.out
    exact hK Rc.dflt _ ⟨hgr.os,hgr.tape,hgr.output,hgr.size,fun j hj hn=>hgr.block j hj fun e=>hn (.inr (by cases e; rfl))⟩ (fun y hy=>(hy.block _ ((Array.getElem?_eq_some_iff.1 h8').1) (.inr (.inl (.inr rfl)))).trans h8')
   intro K hK; go_simp; refine hK _ ?_; clear hK K
   refine Re.done fun x2 Fs2 hx hg' => ?_
   have hr:SubAt w a b (D.set k (sd m1 m2 u)) g x2:=by
    have hx':=Re.undrew hx
    refine ⟨(hx'.block _ HGA.out).trans HR.out.ra,(hx'.block _ HGB.out).trans HR.out.rb,(hx'.block _ ?_).trans HR.out.rz,hg'.1,HR.out.be.trans ⟨hx'.os,hx'.tape,hx'.output,hx'.size,fun j hj=>hx'.block j ⟨?_,?_⟩⟩⟩
    · exact ⟨by have:=HGL.out; omega,by omega⟩
    · exact Nat.lt_of_lt_of_le hj HR.out.be.size
    · have:=HG.out; omega
   have HR2:=Lib.hid hr
   clear hx hg' hr
   go_wp2_with fail
   refine NoPanic.normal ?_
   go_wp2_with fail
   refine ⟨⟨k+1,by omega,by go_num,by rw [HN.out],?_⟩,by simp [intOf]; omega⟩
   rw [HN.out]
   exact HR2
  ·obtain rfl:k=4:=by omega
   have HS:=Lib.hid (subK_all a b HA.out HB.out)
   have hD:=subK_length a b 4
   obtain ⟨D,hDe⟩ : ∃ D,D=(subK a b 4).1:=⟨_,rfl⟩
   obtain ⟨u,hue⟩ : ∃ u,u=(subK a b 4).2:=⟨_,rfl⟩
   rw [← hDe] at hD HR
   have HDE:Hid (D=(subC a b 0).1):=Lib.hid (by rw [hDe,HS.out])
   have HUE:Hid (u=(subC a b 0).2):=Lib.hid (by rw [hue,HS.out])
   rw [← hue]
   clear hDe hue
   have HI:Hid ((Tryz.prog.info? 171).map (·.size)=some (wN D).size):=Lib.hid (by rw [wN_size,hD]; exact infoE)
   have HZ:Hid ((wN [0,0,0,0]).size=(wN D).size):=Lib.hid (by rw [wN_size,wN_size,hD]; rfl)
   clear hD
   obtain ⟨g,hg⟩ : ∃ g,g=w.heap.size:=⟨_,rfl⟩
   rw [← hg] at HR ⊢
   have HG:=Lib.hid hg
   clear hg
   go_wp2_with (first | (refine wpList_load_row rfl 171 _ rfl (g+1+1+1) rfl 171 (wN D) (0,0) _ HR.out.rd Tryz.underlying171 rfl HI.out ?_) | (refine Rg.store_row rfl 171 _ _ rfl (g+1+1) rfl 171 (wN [0,0,0,0]) (wN D) rfl HR.out.rz HI.out HZ.out (wN_one _) ?_))
   refine bodyPost_ret (v := .tuple #[.agg (wN D),.int .u64 (u:Int)]) ?_ rfl ⟨by rw [HDE.out,HUE.out],?_⟩
   · exact results_cell_slotE (P:=Tryz.prog) rfl _ _ (g+1+1) 171 (wN D) (0,0) _ _ rfl (setRow_heap _ _ _ _ 171 _ HR.out.rz) rfl Tryz.underlying171 rfl HI.out
   · exact Rg.below_setRow HR.out.be (by have:=HG.out; omega) _
end Sca
end Go.Proofs.YtfodadedkilgdaaGreatDoor

/- A part of the proof. Plain; no condition. -/
import Derived.Test.YtfodadedkilgdaaGreatDoorP1
import Derived.Test.YtfodadedkilgdaaGreatDoorCards
import Derived.Test.YtfodadedkilgdaaGreatDoorTie
import Derived.ProofKit
import Derived.OpenShut
import Derived.Deep.DeepHandedRow
import Derived.Lib.LaidTab
import Derived.ReadAgain
import Derived.Carry
import Derived.Deep.Matrix
namespace Go.Proofs.YtfodadedkilgdaaGreatDoor
open Go.RowKit Bits Mem
namespace Sha
theorem built_new:Tryz.prog.built 295 [(0,.agg (cells HH))]=some (cells HH ++ #[.slice none 0 0,.int .i64 0]):=by kernel_rfl
set_option maxRecDepth 100000 in
set_option maxHeartbeats 400000 in
theorem new_any (w:World) (hT:Tabs w) :
 Calls Tryz.prog 120 #[] w fun e w' => ∃ hb,e = .returned (.pointer (some ⟨hb,0,none⟩))∧HashAt w' hb []∧w.heap.size≤hb∧Below w.heap.size w w':=by
 obtain ⟨t,f,hrow⟩:=hT.start
 have HROW:=Lib.hid hrow; clear hrow
 go_enter Tryz.func120,Tryz.ntmps120
 go_wp2_with (first | (refine wpList_load_row rfl 293 _ rfl 5 rfl t (cells HH) f _ HROW.out Tryz.underlying293 rfl info8 ?_) | (refine wpList_build rfl 295 _ rfl (by exact (congrArg Option.isSome built_new)) ?_))
 go_ret
 refine ⟨w.heap.size,rfl,⟨none,0,295,?_,Rd.nil _ _,by simp [Value.ownBlock]⟩,Nat.le_refl _,(Below.refl _ _).alloc (Nat.le_refl _) _⟩
 exact (Rg.heap_alloc_at _ _ _ rfl).trans (congrArg (fun c=>some (Obj.cells c 295 (0,0))) (by kernel_rfl))
def bysA (l:List UInt8):Array Value:=(bys l).toArray
def zeros32:List UInt8:=List.replicate 32 0
@[go_sem] theorem u32_shr24 (a:BitVec 32):n32 a / (16777216:Int)=n32 (a >>> 24):=u32_shr a 24
@[go_sem] theorem u32_shr16 (a:BitVec 32):n32 a / (65536:Int)=n32 (a >>> 16):=u32_shr a 16
@[go_sem] theorem u32_shr8 (a:BitVec 32):n32 a / (256:Int)=n32 (a >>> 8):=u32_shr a 8
@[go_sem] theorem u32_by8 (a:BitVec 32):n32 a%(256:Int)=((by8 a).toNat:Int):=by
 unfold n32 by8; rw [UInt8.toNat_ofNat']; omega
@[go_sem] theorem u32_by8' (a:BitVec 32):IntKind.u8.wrap (n32 a)=((by8 a).toNat:Int):=by
 rw [IntKind.wrap_u8',u32_by8]
def outk (H:List (BitVec 32)) (k:Nat):List UInt8:=outb (H.take k)++List.replicate (32-4*k) 0
theorem outk_length (H:List (BitVec 32)) (hH:H.length=8) (k:Nat) (hk:k≤8):(outk H k).length=32:=by
 unfold outk; rw [List.length_append,outb_length,List.length_take,List.length_replicate]; omega
theorem outk_zero (H:List (BitVec 32)):outk H 0=zeros32:=by simp [outk,outb,zeros32]
theorem outk_full (H:List (BitVec 32)) (hH:H.length=8):outk H 8=outb H:=by
 unfold outk; rw [List.take_of_length_le (by omega)]; simp
theorem outk_get (H:List (BitVec 32)) (hH:H.length=8) (k i:Nat) (hk:k<8) (hi:i<4):(bysA (outk H k))[4*k+i]? = some (.int .u8 0):=by
 have hl:(outb (H.take k)).length=4*k:=by rw [outb_length,List.length_take]; omega
 unfold bysA bys outk
 simp only [List.getElem?_toArray,List.getElem?_map]
 rw [List.getElem?_append_right (by omega),hl,List.getElem?_replicate,if_pos (by omega)]
 rfl
theorem outk_set (H:List (BitVec 32)) (hH:H.length=8) (k:Nat) (hk:k<8) :
 ((((bysA (outk H k)).setIfInBounds (4*k) (.int .u8 ((by8 (rd H k >>> 24)).toNat:Int))).setIfInBounds (4*k+1) (.int .u8 ((by8 (rd H k >>> 16)).toNat:Int))).setIfInBounds (4*k+2) (.int .u8 ((by8 (rd H k >>> 8)).toNat:Int))).setIfInBounds (4*k+3) (.int .u8 ((by8 (rd H k)).toNat:Int))=bysA (outk H (k+1)):=by
 have hl:(outb (H.take k)).length=4*k:=by rw [outb_length,List.length_take]; omega
 have ht:H.take (k+1)=H.take k ++ [rd H k]:=by
  rw [List.take_succ_eq_append_getElem (by omega)]; simp [rd,List.getD,hH,hk]
 have e1:outk H k=outb (H.take k)++([0,0,0,0]++List.replicate (32-4*(k+1)) 0):=by
  unfold outk
  rw [show 32-4*k=4+(32-4*(k+1)) from by omega,← List.replicate_append_replicate]; rfl
 have e2:outk H (k+1)=outb (H.take k)++(four (rd H k)++List.replicate (32-4*(k+1)) 0):=by
  unfold outk
  rw [ht,outb_append,List.append_assoc]; simp [outb]
 rw [e1,e2]
 apply Array.ext'
 have hl':(List.map (fun b:UInt8=>Value.int .u8 (b.toNat:Int)) (outb (H.take k))).length=4*k:=by rw [List.length_map]; exact hl
 simp only [bysA,bys,List.map_append,Array.toList_setIfInBounds]
 rw [List.set_append_right _ _ (by omega),List.set_append_right _ _ (by omega),List.set_append_right _ _ (by omega),List.set_append_right _ _ (by omega),hl']
 rw [show 4*k-4*k=0 from by omega,show 4*k+1-4*k=1 from by omega,show 4*k+2-4*k=2 from by omega,show 4*k+3-4*k=3 from by omega]
 rfl
theorem run_idx (H:List (BitVec 32)) (hH:H.length=8) (i:Nat) (hi:i<8) (w:World) :
 (Instr.index 293 (.agg (cells H)) (.int .i64 (i:Int))).run Tryz.prog w = .ok (.int .u32 (n32 (rd H i))) w:=by
 have hg:=cells_get H i (by omega)
 obtain ⟨i0,h1,h2⟩ : ∃ i0,Tryz.prog.info? 292=some i0∧i0.size=1:=by
  have:(Tryz.prog.info? 292).map (·.size)=some 1:=by kernel_rfl
  obtain ⟨i0,h1,h2⟩:=Option.map_eq_some_iff.1 this
  exact ⟨i0,h1,h2⟩
 simp [Instr.index,asIntOf,Sem.run_bind,run_underlying Tryz.underlying293,run_underlying Tryz.underlying292,sizeOf,typeInfo,h1,h2,part,isAgg,hg]
 intro h; omega
theorem info32:(Tryz.prog.info? 22).map (·.size)=some 32:=by kernel_rfl
theorem bysA_size (l:List UInt8):(bysA l).size=l.length:=by simp [bysA,bys]
theorem bysA_one (l:List UInt8):(bysA l).all (·.oneCell')=true:=by
 rw [Array.all_eq_true_iff_forall_mem]; intro v hv; exact bys_one l v (by simpa [bysA] using hv)
set_option maxRecDepth 100000 in
set_option maxHeartbeats 2000000 in
theorem sum_some (hb:Nat) (all:List UInt8) (w:World) (hT:Tabs w) (hh:HashAt w hb all) (hsz:all.length≤70368744177664) :
 Calls Tryz.prog 122 #[.pointer (some ⟨hb,0,none⟩)] w fun e w'=>e = .returned (.agg (bysA (sha all)))∧Below w.heap.size w w':=by
 obtain ⟨p,c0,t,hrow,hrd,hne⟩:=hh
 have hn:=st_length all
 have hhb:=lt_of_heap hrow
 have c8:w.cell? ⟨hb,8,none⟩=some (.slice p (rs all).length c0):=by rw [cell_of_row w hb 8 _ _ _ hrow,Array.getElem?_append_right (by rw [cells_size]; omega),cells_size,hn]; rfl
 generalize hR:rs all=R at *
 have HR:=Lib.hid hR; clear hR
 have hRl:R.length≤64:=by rw [← HR.out,rs_length]; omega
 have HROW:=Lib.hid hrow; clear hrow
 have hn':=Lib.hid hn; clear hn
 obtain ⟨i0,hi,hz0,hz1,hz2⟩:=info_parts info1
 go_enter Tryz.func122,Tryz.ntmps122
 have c9:w.cell? ⟨hb,9,none⟩=some (.int .i64 (all.length:Int)):=by rw [cell_of_row w hb 9 _ _ _ HROW.out,Array.getElem?_append_right (by rw [cells_size,hn'.out]; omega),cells_size,hn'.out]; rfl
 have hbw0:Below w.heap.size w ((w.alloc (.cells (bysA zeros32) 22)).alloc (.cells #[] 5)):=((Below.refl _ _).alloc (Nat.le_refl _) _).alloc (by simp) _
 have hown0:=World.ownsRow_lit (base:=w.heap.size+1) (e:=5) (size:=1) (w.alloc (.cells (bysA zeros32) 22)) #[] 0 (by simp) (Nat.zero_le _) rfl
 rw [World.size_alloc] at hown0
 have hrd0:=hrd.below hbw0
 have hlit : ∀ (b:UInt8) (w1:World),Rd (w1.alloc (.cells #[.int .u8 (b.toNat:Int)] 5)) 1 (.slice (some ⟨w1.heap.size,0,none⟩) 1 1) 1 (bys [b]):=fun b w1=>Rd_lit w1 #[.int .u8 (b.toNat:Int)] 5 1 1 rfl (by decide)
 have HLIT:=Lib.hid hlit
 have HOWN0:=Lib.hid hown0
 obtain ⟨W0,hW0⟩ : ∃ W0,W0=w.alloc (.cells (bysA zeros32) 22):=⟨_,rfl⟩
 have HW0:=Lib.hid hW0
 have hB0:Below (w.heap.size+1) W0 (w.alloc (.cells (bysA zeros32) 22)):=by rw [hW0]; exact Below.refl _ _
 have hs0:W0.heap.size=w.heap.size+1:=by rw [hW0,World.size_alloc]
 have hbW:Below w.heap.size w W0:=by rw [hW0]; exact (Below.refl _ _).alloc (Nat.le_refl _) _
 have hrow0:W0.heap[w.heap.size]? = some (.cells (bysA zeros32) 22 (0,0)):=by rw [hW0]; exact Rg.heap_alloc_at _ _ _ rfl
 have HB0:=Lib.hid hB0
 have HROW0:=Lib.hid hrow0
 have HS0:=Lib.hid hs0
 have HBW:=Lib.hid hbW
 clear hbw0 hlit hB0 hrow0 hs0 hbW hown0 hW0
 go_wp2_with (first | (at_builtin; have tk0:=HOWN0.out; go_must (refine Mem.app_own rfl _ _ 31 rfl (w.heap.size+1) 5 i0 (.int .u8 0) 1 1 Tryz.underlying31 hi hz0 hz1 hz2 rfl (by decide) _ _ _ rfl tk0 _ _ _ rfl hrd0 (bys_one R) (by unfold maxLen; omega) (by omega) (by simp) ?_); intro v1 w1 hown1 hg1 _; rw [Nat.zero_add,List.nil_append] at hown1; go_must (have hb1:Below (w.heap.size+1) W0 w1:=(below_app HB0.out (by simp) tk0 (Nat.le_refl _) hg1)); go_must (have hs1:w.heap.size+1≤w1.heap.size:=(by have:=hb1.size; rw [HS0.out] at this; exact this)); clear HOWN0 hg1 tk0) | (at_builtin; go_must (have ho1:=hown1.alloc (.cells #[.int .u8 ((128:UInt8).toNat:Int)] 5)); go_must (refine Mem.app_own rfl _ _ 31 rfl (w.heap.size+1) 5 i0 (.int .u8 0) 1 1 Tryz.underlying31 hi hz0 hz1 hz2 rfl (by decide) _ _ _ rfl ho1 _ _ _ rfl (HLIT.out 128 _) (bys_one [128]) (by unfold maxLen; omega) (by omega) (by rw [World.size_alloc]; omega) ?_); go_must (intro v2 w2 hown2 hg2 _); go_must (obtain ⟨q2,c2,rfl⟩:=Rd_form (Rd.of_own hown2)); go_must (have hb2:Below (w.heap.size+1) W0 w2:=(below_app hb1 hs1 ho1 (Nat.le_refl _) hg2)); clear hown1 ho1 hg2))
 have hs2:w.heap.size+1≤w2.heap.size:=by have:=hb2.size; rw [HS0.out] at this; exact this
 rw [← bys_append] at hown2
 clear hb1 hs1 hrd0 c8 c9 hrd
 go_loopw [3] (fun v wr => ∃ j q c,j≤zc R.length∧v = .slice q (R.length+1+j) c∧wr.ownsRow (w.heap.size+1) 5 1 (.slice q (R.length+1+j) c) (R.length+1+j) (bys (padz R j))∧Below (w.heap.size+1) W0 wr) (fun v _=>200-sliceLen v)
 case atStart=>exact ⟨0,q2,c2,Nat.zero_le _,rfl,hown2,hb2⟩
 case round =>
  obtain ⟨j,q,c,hj,rfl,hown,hbel⟩:=hrel
  obtain ⟨N,hN⟩ : ∃ N,N=R.length+1+j:=⟨_,rfl⟩
  rw [← hN] at hown ⊢
  have hzl:=zc_le R.length
  have hzs:=zc_spec R.length
  have hzf:=zc_first R.length j
  have hsr:w.heap.size+1≤wr.heap.size:=by have:=hbel.size; rw [HS0.out] at this; exact this
  have hNb:N≤200:=by omega
  by_cases hlt:j<zc R.length
  ·have h56:((N:Int)%64==56)=false:=by rw [beq_eq_false_iff_ne]; omega
   have h56':((N:Int)%64 != 56)=true:=by rw [bne_iff_ne]; omega
   have HN:=Lib.hid hN; clear hN hzs hzf
   go_wp2_with (at_builtin; have ho:=hown.alloc (.cells #[.int .u8 ((0:UInt8).toNat:Int)] 5); go_must (refine Mem.app_own rfl _ _ 31 rfl (w.heap.size+1) 5 i0 (.int .u8 0) 1 1 Tryz.underlying31 hi hz0 hz1 hz2 rfl (by decide) _ _ _ rfl ho _ _ _ rfl (HLIT.out 0 _) (bys_one [0]) (by unfold maxLen; omega) (by omega) (by rw [World.size_alloc]; omega) ?_); go_must (intro v3 w3 hown3 hg3 _); go_must (obtain ⟨q3,c3,rfl⟩:=Rd_form (Rd.of_own hown3)); go_must (have hb3:Below (w.heap.size+1) W0 w3:=(below_app hbel hsr ho (Nat.le_refl _) hg3)); clear hown ho hg3)
   have HO3:=Lib.hid hown3; clear hown3
   refine ⟨⟨j+1,q3,c3,by omega,by rw [HN.out]; rfl,?_,hb3⟩,?_⟩
   · rw [padz_succ,bys_append,show R.length+1+(j+1)=N+1 from by have:=HN.out; omega]; exact HO3.out
   ·show 200-(N+1)<200-N
    have:=HN.out
    omega
  ·have hj':j=zc R.length:=by omega
   have h56:((N:Int)%64==56)=true:=by rw [beq_iff_eq]; omega
   have h56':((N:Int)%64 != 56)=false:=by rw [bne_eq_false_iff_eq]; omega
   have HN:Hid (N=R.length+1+zc R.length):=Lib.hid (by omega)
   have HPZ:Hid (padz R j=padz R (zc R.length)):=Lib.hid (by rw [hj'])
   rw [HPZ.out] at hown
   clear hN hzs hzf hj' hj hlt
   go_wp2
   have hown':wr.ownsRow (w.heap.size+1) 5 1 (.slice q (N+0) c) (N+0) (bys (padz R (zc R.length)++be (8*all.length) 0)):=by simpa [be] using hown
   clear hown
   go_loopw [3,4] (fun v i wr => ∃ (m:Nat) (q:Option Addr) (c:Nat),m≤8∧i = .int .i64 (7-(m:Int))∧v = .slice q (N+m) c∧wr.ownsRow (w.heap.size+1) 5 1 (.slice q (N+m) c) (N+m) (bys (padz R (zc R.length)++be (8*all.length) m))∧Below (w.heap.size+1) W0 wr) (fun _ i _=>(intOf i+1).toNat)
   case atStart=>exact ⟨0,q,c,by omega,rfl,rfl,hown',hbel⟩
   case round =>
    obtain ⟨m,qm,cm,hm,rfl,rfl,hownm,hbelm⟩:=hrel
    have hsm:w.heap.size+1≤wr.heap.size:=by have:=hbelm.size; rw [HS0.out] at this; exact this
    have c9m:wr.cell? ⟨hb,9,none⟩=some (.int .i64 (all.length:Int)):=by
     rw [hbelm.cell (p:=⟨hb,9,none⟩) (by show hb<_; omega),HBW.out.cell (p:=⟨hb,9,none⟩) hhb,cell_of_row w hb 9 _ _ _ HROW.out,Array.getElem?_append_right (by rw [cells_size,hn'.out]; omega),cells_size,hn'.out]; rfl
    by_cases hlt:m<8
    ·have hge:(0:Int)≤7-(m:Int):=by omega
     obtain ⟨bq,hbq⟩ : ∃ bq,bq=UInt8.ofNat (8*all.length / 2^(8*(7-m))):=⟨_,rfl⟩
     have hb8:((all.length:Int)*8 / 2^(8*(7-m))%256)=(bq.toNat:Int):=by
      rw [hbq,UInt8.toNat_ofNat',show 8*all.length=all.length*8 from Nat.mul_comm _ _]; simp
     have HBQ:=Lib.hid hbq; clear hbq
     have hNm:N+m≤300:=by omega
     go_wp2_with (at_builtin; have ho:=hownm.alloc (.cells #[.int .u8 (bq.toNat:Int)] 5); go_must (refine Mem.app_own rfl _ _ 31 rfl (w.heap.size+1) 5 i0 (.int .u8 0) 1 1 Tryz.underlying31 hi hz0 hz1 hz2 rfl (by decide) _ _ _ rfl ho _ _ _ rfl (HLIT.out bq _) (bys_one [bq]) (by unfold maxLen; omega) (by omega) (by rw [World.size_alloc]; omega) ?_); go_must (intro v3 w3 hown3 hg3 _); go_must (obtain ⟨q3,c3,rfl⟩:=Rd_form (Rd.of_own hown3)); go_must (have hb3:Below (w.heap.size+1) W0 w3:=(below_app hbelm hsm ho (Nat.le_refl _) hg3)); clear hownm ho hg3)
     have HO3:=Lib.hid hown3; clear hown3
     refine ⟨⟨m+1,q3,c3,by omega,by congr 1; omega,by rw [Nat.add_assoc],?_,hb3⟩,?_⟩
     · rw [be_succ,← HBQ.out,← List.append_assoc,bys_append,← Nat.add_assoc]; exact HO3.out
     · simp [intOf]; omega
    ·obtain rfl:m=8:=by omega
     have HP:Hid (padz R (zc R.length)++be (8*all.length) 8=pad all.length R):=Lib.hid rfl
     rw [HP.out] at hownm
     have hPL:=pad_length all.length R
     have hPM:=pad_mod all.length R
     have HNP:Hid (N+8=(pad all.length R).length):=Lib.hid (by have:=HN.out; omega)
     rw [HNP.out] at hownm ⊢
     obtain ⟨P,hP⟩ : ∃ P,P=pad all.length R:=⟨_,rfl⟩
     rw [← hP] at hownm hPL hPM ⊢
     have HPP:=Lib.hid hP; clear hP
     have HPL:=Lib.hid hPL
     have HPM:=Lib.hid hPM
     have hPb:P.length≤200:=by have:=zc_le R.length; omega
     clear hPL hPM
     rw [show (7-((8:Nat):Int)) = -1 from rfl]
     have HLD:Hid (∀ w',Below wr.heap.size wr w'→(Instr.loadAt 293 (.pointer (some ⟨hb,0,none⟩))).run Tryz.prog w' = .ok (.agg (cells (st all))) w'):=Lib.hid (fun w' hw'=>by
      have hrow':w'.heap[hb]? = _:=Rg.below_row hw' (by omega) (Rg.below_row hbelm (by omega) (Rg.below_row HBW.out hhb HROW.out))
      refine run_loadAt_mid w' hb 0 _ (cells (st all)).toList _ ?_ Tryz.underlying293 rfl ?_
      ·intro j v hv
       rw [cell_of_row w' hb (0+j) _ _ _ hrow']
       have hj:j<(cells (st all)).size:=by have:=(List.getElem?_eq_some_iff.1 hv).1; simpa using this
       rw [Nat.zero_add,Array.getElem?_append_left hj]; simpa using hv
      · rw [Array.length_toList,cells_size,hn'.out]; exact info8)
     have hst8:(cells (st all)).size=8:=by rw [cells_size,hn'.out]
     have hi8:(Tryz.prog.info? 293).map (·.size)=some (cells (st all)).size:=by rw [hst8]; exact info8
     have hz8:(#[Value.int .u32 0,.int .u32 0,.int .u32 0,.int .u32 0,.int .u32 0,.int .u32 0,.int .u32 0,.int .u32 0]:Array Value).size=(cells (st all)).size:=by rw [hst8]; rfl
     have HI8:=Lib.hid hi8
     have HZ8:=Lib.hid hz8
     have HTr:Hid (Tabs wr):=Lib.hid ((hT.below HBW.out).below (hbelm.mono (by rw [HS0.out]; exact Nat.le_refl _)))
     clear hi8 hz8 hst8
     go_wp2_with (first | (refine Mem.l_load rfl 293 _ rfl _ (HLD.out _ (Below.refl _ _)) ?_) | (refine Rg.store_row_new rfl 293 _ _ rfl wr.heap.size rfl rfl 293 _ (cells (st all)) rfl HI8.out HZ8.out (cells_one _) ?_))
     dsimp only [Act.put]
     obtain ⟨wv,hwv⟩ : ∃ wv,wv=wr.alloc (.cells (cells (st all)) 293):=⟨_,rfl⟩
     rw [← hwv]
     have hbv:Below (w.heap.size+1) W0 wv:=by rw [hwv]; exact hbelm.alloc hsm _
     have hrv:Rd wv 1 (.slice qm P.length cm) P.length (bys P):=by rw [hwv]; exact (Rd.of_own hownm).kept (World.grownBy_alloc _ _ none) (by cases qm <;> simp [Value.ownBlock])
     have hnv:(Value.slice qm P.length cm).ownBlock≠some wr.heap.size:=fun e=>by have:=(hownm.lt _ e).2; omega
     have hrowv:wv.heap[wr.heap.size]? = some (.cells (cells (st all)) 293 (0,0)):=by rw [hwv]; exact Rg.heap_alloc_at _ _ _ rfl
     have hTv:Tabs wv:=by rw [hwv]; exact HTr.out.below ((Below.refl _ _).alloc (Nat.le_refl _) _)
     obtain ⟨G,hG⟩ : ∃ G,G=wr.heap.size:=⟨_,rfl⟩
     rw [← hG] at hnv hrowv hsm ⊢
     have HGs:=Lib.hid hG
     have HTV:=Lib.hid hTv
     clear hwv hG HLD hownm hbelm c9m HTr hTv
     go_loopw [3] (fun v wr => ∃ (k:Nat) (q:Option Addr) (c:Nat),64*k≤P.length∧v = .slice q (P.length-64*k) c∧Rd wr 1 (.slice q (P.length-64*k) c) (P.length-64*k) (bys (P.drop (64*k)))∧(Value.slice q (P.length-64*k) c).ownBlock≠some G ∧
      wr.heap[G]? = some (.cells (cells (pressN k (st all) P)) 293 (0,0))∧Below (w.heap.size+1) W0 wr∧Tabs wr) (fun v _=>sliceLen v)
     case atStart=>exact ⟨0,qm,cm,by omega,rfl,hrv,hnv,hrowv,hbv,HTV.out⟩
     case round =>
      obtain ⟨k,qk,ck,hk,rfl,hrk,hnk,hrowk,hbk,hTk⟩:=hrel
      obtain ⟨D,hD⟩ : ∃ D,D=P.drop (64*k):=⟨_,rfl⟩
      have hDl:P.length-64*k=D.length:=by rw [hD,List.length_drop]
      have HD:=Lib.hid hD
      rw [← hD] at hrk
      rw [hDl] at hrk hnk ⊢
      clear hD
      have HDL:=Lib.hid hDl; clear hDl
      have hPl:(pressN k (st all) P).length=8:=by rw [pressN_length]; exact hn'.out
      obtain ⟨Hk,hHk⟩ : ∃ Hk,Hk=pressN k (st all) P:=⟨_,rfl⟩
      rw [← hHk] at hrowk hPl
      have HHK:=Lib.hid hHk; clear hHk
      have ROWK:=Lib.hid hrowk; clear hrowk
      have HPL8:=Lib.hid hPl; clear hPl
      have hDm:D.length≤200:=by rw [← HDL.out]; omega
      have hDmod:D.length%64=0:=by rw [← HDL.out]; have:=HPM.out; omega
      have HIK:Hid ((Tryz.prog.info? 293).map (·.size)=some (cells Hk).size):=Lib.hid (by rw [cells_size,HPL8.out]; exact info8)
      by_cases hge:64≤D.length
      ·obtain ⟨b2,off2,rfl,hb2,hnc,hcm,hcell⟩:=Rd_lt hrk (by omega)
       have hbn:b2≠G:=by simpa [Value.ownBlock] using hnk
       have HPR:Hid (∀ w',Below wr.heap.size wr w'→Calls Tryz.prog 168 #[.agg (cells Hk),.slice (some ⟨b2,off2,none⟩) 64 ck] w' fun e w''=>e = .returned (.agg (cells (press Hk (D.take 64))))∧Below wr.heap.size wr w''):=Lib.hid (fun w' hw'=>by
        refine (press_any Hk (D.take 64) b2 off2 64 ck w' HPL8.out (hTk.below hw') (by rw [List.length_take]; omega) (by rw [List.length_take]; omega) (by omega) ?_ ?_).mono fun e w'' h=>⟨h.1,hw'.trans (h.2.mono hw'.size)⟩
        · unfold maxLen at hcm; omega
        ·intro j hj
         rw [hw'.cell (p:=⟨b2,off2+j,none⟩) hb2]
         refine hcell j _ ?_
         rw [bys_get D j (by omega)]
         simp [bt,List.getD,hj])
       have HLD:Hid (∀ w',Below wr.heap.size wr w'→(Instr.loadAt 293 (.pointer (some ⟨G,0,none⟩))).run Tryz.prog w' = .ok (.agg (cells Hk)) w'):=Lib.hid (fun w' hw'=>by
        have hrow':=Rg.below_row hw' (lt_of_heap ROWK.out) ROWK.out
        simp only [Instr.loadAt,Instr.sureAddr,Sem.run_bind,Sem.run_pure,Result.andThen_ok]
        exact run_loadVar_row w' G _ _ _ _ _ hrow' Tryz.underlying293 rfl HIK.out)
       have hgei:(0:Int)<(D.length:Int):=by omega
       have hlt64:64≤ck:=by omega
       have hlt65:(64:Int)≤(ck:Int):=by omega
       have HCELL:=Lib.hid hcell; clear hcell
       have hcm2:ck≤9223372036854775807:=by unfold maxLen at hcm; exact hcm
       go_wp2
       refine Rg.tail (fun w'=>RowKit.Below (wr).heap.size (wr) w') 4 (by kernel_rfl) (by kernel_rfl) ((RowKit.Below.refl _ _).drew) ?_; simp only [List.take_succ_cons,List.take_zero,List.drop_succ_cons,List.drop_zero]
       repeat (first | (refine Mem.q_load rfl _ _ rfl _ (HLD.out) ?_; intro K hK; go_simp; refine hK _ ?_; clear hK K) | (refine Rg.stepK rfl ?_; intro K hK; apply Exists.intro; refine ⟨?_,?_⟩; (focus (intro w' hw';  go_simp; (first | (go_at_call 168; exact HPR.out _ hw') | ((try go_bits); (try go_simp); (try rfl))))); go_simp; refine hK _ ?_; clear hK K))
       refine wpQuiet_nil ?_; intro w' hw'
       have roww:=Rg.below_row hw' (lt_of_heap ROWK.out) ROWK.out
       have hPP:(press Hk (D.take 64)).length=8:=by rw [press_length]; exact HPL8.out
       have HROWW:=Lib.hid roww; clear roww
       have HPP8:=Lib.hid hPP; clear hPP
       refine Rg.store_row rfl 293 _ _ rfl G rfl 293 (cells Hk) (cells (press Hk (D.take 64))) rfl HROWW.out (by rw [cells_size,HPP8.out]; exact info8) (by rw [cells_size,cells_size,HPP8.out,HPL8.out]) (cells_one _) ?_
       obtain ⟨w3,hw3⟩ : ∃ w3,w3=w'.setRow G (cells (press Hk (D.take 64))):=⟨_,rfl⟩
       rw [← hw3]
       have g3:wr.grownBy w3 (some G):=grown_trans (grown_below hw' (some G)) (by rw [hw3]; exact grown_setRow _ _ _)
       have row3:w3.heap[G]? = some (.cells (cells (pressN (k+1) (st all) P)) 293 (0,0)):=by
        rw [hw3,setRow_heap _ _ _ _ _ _ HROWW.out,pressN_succ,← HHK.out,← HD.out]
       have hb3:Below (w.heap.size+1) W0 w3:=by rw [hw3]; exact Rg.below_setRow (hbk.trans (hw'.mono (by have:=hbk.size; rw [HS0.out] at this; exact this))) hsm _
       have hT3:Tabs w3:=(hT.below HBW.out).below (hb3.mono (by rw [HS0.out]; exact Nat.le_refl _))
       have hrd3:Rd w3 1 (.slice (some ⟨b2,off2,none⟩) D.length ck) D.length (bys D):=hrk.kept g3 (.inr (by simpa [Value.ownBlock] using hbn))
       have hD':P.drop (64*(k+1))=D.drop 64:=by rw [HD.out,List.drop_drop]; congr 1
       have hN':P.length-64*(k+1)=D.length-64:=by have:=HDL.out; omega
       have hk':64*(k+1)≤P.length:=by have:=HDL.out; omega
       have HN':=Lib.hid hN'
       have HD':=Lib.hid hD'
       have HROW3:=Lib.hid row3
       have HT3:=Lib.hid hT3
       have HB3:=Lib.hid hb3
       have HNM:=Lib.hid hcm
       clear hw3 g3 row3 hT3 hD' hN' hcm hbk hTk hw' hb3
       by_cases h64:ck=64
       ·subst h64
        have hDn:D.length=64:=by omega
        have hr0:=Rd_none hrd3 0 (Nat.zero_le _)
        have e0:D.drop 64 = []:=List.drop_of_length_le (by omega)
        have HE0:=Lib.hid e0; clear e0
        have HDN:=Lib.hid hDn; clear hDn
        go_wp2
        refine ⟨⟨k+1,some ⟨b2,off2,none⟩,0,hk',by rw [HN'.out,HDN.out],by rw [HN'.out,HD'.out,HE0.out,HDN.out]; exact hr0,by simpa [Value.ownBlock] using hbn,HROW3.out,HB3.out,HT3.out⟩,?_⟩
        show 0<D.length
        omega
       ·have h64':64<ck:=by omega
        have hr0:=Rd_drop (k:=64) hrd3 hge
        go_wp2
        refine ⟨⟨k+1,some ⟨b2,off2+64,none⟩,ck-64,hk',by rw [HN'.out],by rw [HN'.out,HD'.out]; exact hr0,by simpa [Value.ownBlock] using hbn,HROW3.out,HB3.out,HT3.out⟩,?_⟩
        show D.length-64<D.length
        omega
      ·have hD0:D.length=0:=by omega
       have hkk:k=P.length / 64:=by have:=HDL.out; omega
       have HSHA:Hid (sha all=outb Hk):=Lib.hid (by rw [sha,HR.out,← HPP.out,← hkk,HHK.out])
       have hngt : ¬ (0:Int)<(D.length:Int):=by omega
       have HD0:=Lib.hid hD0
       have hsw:w.heap.size+1≤wr.heap.size:=by have:=hbk.size; rw [HS0.out] at this; exact this
       have hGlt:G<wr.heap.size:=lt_of_heap ROWK.out
       have HRD:=Lib.hid hrk
       clear hkk hD0 hrk hk hnk hTk
       go_wp2_with (refine wpList_load_row rfl 293 _ rfl G rfl 293 (cells Hk) (0,0) _ (by exact (Rg.heap_alloc_past _ _ _ hGlt).trans ROWK.out) Tryz.underlying293 rfl HIK.out ?_)
       have HIK8:=HPL8.out
       go_loopw [59] (fun i w' => ∃ k:Nat,k≤8∧i = .int .i64 k∧w'=wr.alloc (.cells (bysA (outk Hk k)) 22)) (fun i _=>8-(intOf i).toNat)
       case atStart=>exact ⟨0,by omega,rfl,by rw [outk_zero]; rfl⟩
       case round =>
        obtain ⟨i,hi8,rfl,rfl⟩:=hrel
        have hol:=outk_length Hk HPL8.out i hi8
        have HOL:=Lib.hid hol; clear hol
        by_cases hlt:i<8
        ·have hk0:=cells_get Hk i (by omega)
         have ho0:=outk_get Hk HIK8 i 0 hlt (by omega)
         have ho1:=outk_get Hk HIK8 i 1 hlt (by omega)
         have ho2:=outk_get Hk HIK8 i 2 hlt (by omega)
         have ho3:=outk_get Hk HIK8 i 3 hlt (by omega)
         rw [Nat.add_zero] at ho0
         have HS4:=Lib.hid (outk_set Hk HIK8 i hlt)
         have hidx:=fun w=>run_idx Hk HIK8 i hlt w
         clear HIK8
         go_wp2
         refine ⟨⟨i+1,by omega,rfl,by rw [← HS4.out]⟩,by simp [intOf]; omega⟩
        ·obtain rfl:i=8:=by omega
         rw [show ((8:Nat):Int)=8 from rfl]
         have hi32:(Tryz.prog.info? 22).map (·.size)=some (bysA (outk Hk 8)).size:=by rw [bysA_size,HOL.out]; exact info32
         have HI32:=Lib.hid hi32; clear hi32
         have HZ32:Hid ((bysA zeros32).size=(bysA (outk Hk 8)).size):=Lib.hid (by rw [bysA_size,bysA_size,HOL.out]; rfl)
         have hrw:(wr.alloc (.cells (bysA (outk Hk 8)) 22)).heap[w.heap.size]? = some (.cells (bysA zeros32) 22 (0,0)):=(Rg.heap_alloc_past _ _ _ (by omega)).trans (Rg.below_row hbk (by omega) HROW0.out)
         have HRW:=Lib.hid hrw; clear hrw
         have HFULL:Hid (outk Hk 8=sha all):=Lib.hid (by rw [outk_full Hk HPL8.out,HSHA.out])
         clear HIK8
         go_wp2_with (first | (refine wpList_load_row rfl 22 _ rfl wr.heap.size rfl 22 (bysA (outk Hk 8)) (0,0) _ (by exact Rg.heap_alloc_at _ _ _ rfl) Tryz.underlying22 rfl HI32.out ?_) | (refine Rg.store_row rfl 22 _ _ rfl w.heap.size rfl 22 (bysA zeros32) (bysA (outk Hk 8)) rfl HRW.out HI32.out HZ32.out (bysA_one _) ?_))
         refine bodyPost_ret (v := .agg (bysA (outk Hk 8))) (results_cell_row (P:=Tryz.prog) rfl _ _ w.heap.size 22 (bysA (outk Hk 8)) (0,0) _ rfl (setRow_heap _ _ _ _ 22 _ HRW.out) Tryz.underlying22 rfl HI32.out) rfl ⟨by rw [HFULL.out],?_⟩
         exact Rg.below_setRow ((HBW.out.trans (hbk.mono (by omega))).alloc (by omega) _) (Nat.le_refl _) _
end Sha
end Go.Proofs.YtfodadedkilgdaaGreatDoor
namespace Go.Proofs.YtfodadedkilgdaaGreatDoor
open Go.RowKit Bits Mem
namespace Sha
theorem Rd_own_lt {w:World} {size:Nat} {v:Value} {n:Nat} {xs:List Value} (h:Rd w size v n xs) {k:Nat} (hk:v.ownBlock=some k):k<w.heap.size:=by
 rcases h.2 with ⟨rfl,_⟩ | ⟨b,off,cap,rfl,hb,_⟩
 · cases hk
 · cases hk; exact hb
def Parts (w:World) (v:Value) (L:List (List UInt8)):Prop :=
 ∃ vs:List Value,Rd w 1 v L.length vs ∧ ∀ i,i<L.length → ∃ q c,vs[i]? = some (.slice q (L.getD i []).length c)∧Rd w 1 (.slice q (L.getD i []).length c) (L.getD i []).length (bys (L.getD i []))
theorem flatten_take_succ (L:List (List UInt8)) (k:Nat) (h:k<L.length):(L.take (k+1)).flatten=(L.take k).flatten++L.getD k []:=by
 rw [List.take_succ_eq_append_getElem h,List.flatten_append]; simp [List.getD,h]
theorem flatten_take_le (L:List (List UInt8)) (k:Nat) (h:k<L.length):(L.take k).flatten.length+(L.getD k []).length≤L.flatten.length:=by
 have h1:=flatten_take_succ L k h
 have h2:L.flatten=(L.take (k+1)).flatten++(L.drop (k+1)).flatten:=by rw [← List.flatten_append,List.take_append_drop]
 rw [h2,h1]; simp only [List.length_append]; omega
set_option maxRecDepth 100000 in
set_option maxHeartbeats 1000000 in
theorem parts_any (q:Option Addr) (c:Nat) (L:List (List UInt8)) (w:World) (hT:Tabs w) (hp:Parts w (.slice q L.length c) L) (hsz:L.flatten.length≤70368744177664) :
 Calls Tryz.prog 72 #[.slice q L.length c] w fun e w'=>e = .returned (.agg (bysA (sha L.flatten)))∧Below w.heap.size w w':=by
 go_enter Tryz.func72,Tryz.ntmps72
 go_wp2_with fail
 refine (new_any _ (hT.below ((Below.refl _ _).alloc (Nat.le_refl _) _))).mono ?_
 rintro e w1 ⟨hb,rfl,hh,hge,hb1⟩
 have hB:Below (w.heap.size+1) (w.alloc (.cells (bysA zeros32) 22)) w1:=hb1.mono (by rw [World.size_alloc]; exact Nat.le_refl _)
 have hB':Below w.heap.size w w1:=((Below.refl w.heap.size w).alloc (Nat.le_refl _) _).trans (hB.mono (by omega))
 have hge':w.heap.size+1≤hb:=by rw [World.size_alloc] at hge; exact hge
 have hr:w1.heap[w.heap.size]? = some (.cells (bysA zeros32) 22 (0,0)):=Rg.below_row hB (by omega) (Rg.heap_alloc_at _ _ _ rfl)
 have HT1:=Lib.hid (hT.below hB')
 have HH:=Lib.hid hh
 have HR:=Lib.hid hr
 have HB':=Lib.hid hB'
 have hL:L.length≤9223372036854775807:=by
  obtain ⟨vs,h1,_⟩:=hp
  rcases h1.2 with ⟨_,h0⟩ | ⟨_,_,cap,_,_,hnc,hcm,_⟩
  · omega
  · unfold maxLen at hcm; omega
 clear hh hb1 hB hB' hge hr
 go_wp2_with fail
 have HP:=Lib.hid hp; clear hp
 go_loopw [9] (fun i wr => ∃ k:Nat,k≤L.length∧i = .int .i64 k∧HashAt wr hb (L.take k).flatten∧Below w.heap.size w wr∧wr.heap[w.heap.size]? = some (.cells (bysA zeros32) 22 (0,0))) (fun i _=>L.length-(intOf i).toNat)
 case atStart=>exact ⟨0,Nat.zero_le _,rfl,HH.out,HB'.out,HR.out⟩
 case round =>
  obtain ⟨k,hk,rfl,hhk,hbk,hrk⟩:=hrel
  have hTk:=hT.below hbk
  have HTK:=Lib.hid hTk; clear hTk
  have HHK:=Lib.hid hhk; clear hhk
  have HRK:=Lib.hid hrk; clear hrk
  by_cases hlt:k<L.length
  ·obtain ⟨vs,hv0,hv2⟩:=HP.out
   have hv1:=hv0.below hbk
   obtain ⟨b,off,rfl,hbl,hnc,hcm,hcell⟩:=Rd_lt hv1 (by omega)
   obtain ⟨qk,ck,hvk,hrdk0⟩:=hv2 k hlt
   have hck:=hcell k _ hvk
   have hrdk:=hrdk0.below hbk
   have hqk:(Value.slice qk (L.getD k []).length ck).ownBlock≠some hb:=fun e=>by have:=Rd_own_lt hrdk0 e; omega
   clear hv0 hrdk0
   have hlen:=flatten_take_le L k hlt
   have hfs:=flatten_take_succ L k hlt
   obtain ⟨X,hX⟩ : ∃ X,X=L.getD k []:=⟨_,rfl⟩
   obtain ⟨Y,hY⟩ : ∃ Y,Y=(L.take k).flatten:=⟨_,rfl⟩
   rw [← hX,← hY] at hlen hfs
   rw [← hX] at hck hrdk hqk
   rw [← hY] at HHK
   have HFS:=Lib.hid hfs
   have HX:=Lib.hid hX
   have HRDK:=Lib.hid hrdk
   clear hfs hX hY hcell hv1 hv2 hvk hrdk
   go_wp2_with (go_at_call 121; go_must (refine (write_any hb Y X qk ck _ HTK.out HHK.out HRDK.out hqk (by omega)).mono ?_); rintro e w3 ⟨rfl,hh3,hg3⟩)
   have hlw:w.heap.size<wr.heap.size:=lt_of_heap HRK.out
   refine ⟨⟨k+1,by omega,rfl,?_,?_,?_⟩,by simp [intOf]; omega⟩
   · rw [HFS.out]; exact hh3
   · exact hbk.trans (below_of_grown hg3 hbk.size (fun j hj=>by have e':hb=j:=Option.some.inj hj; omega))
   · exact (hg3.block _ hlw (by intro e; have e':w.heap.size=hb:=Option.some.inj e; omega)).trans HRK.out
  ·obtain rfl:k=L.length:=by omega
   have HTAKE:Hid ((L.take L.length).flatten=L.flatten):=Lib.hid (by rw [List.take_of_length_le (Nat.le_refl _)])
   rw [HTAKE.out] at HHK
   have HI:Hid ((Tryz.prog.info? 22).map (·.size)=some (bysA (sha L.flatten)).size):=Lib.hid (by rw [bysA_size,sha_length]; exact info32)
   have HZ:Hid ((bysA zeros32).size=(bysA (sha L.flatten)).size):=Lib.hid (by rw [bysA_size,bysA_size,sha_length]; rfl)
   go_wp2_with fail
   refine (sum_some hb L.flatten _ HTK.out HHK.out hsz).mono ?_
   rintro e w2 ⟨rfl,hb2⟩
   have HB2:=Lib.hid hb2
   have HR2:=Lib.hid (Rg.below_row hb2 (lt_of_heap HRK.out) HRK.out)
   clear hb2
   go_wp2_with (refine Rg.store_row rfl 22 _ _ rfl w.heap.size rfl 22 (bysA zeros32) (bysA (sha L.flatten)) rfl HR2.out HI.out HZ.out (bysA_one _) ?_)
   refine bodyPost_ret (v := .agg (bysA (sha L.flatten))) (results_cell_row (P:=Tryz.prog) rfl _ _ w.heap.size 22 (bysA (sha L.flatten)) (0,0) _ rfl (setRow_heap _ _ _ _ 22 _ HR2.out) Tryz.underlying22 rfl HI.out) rfl ⟨rfl,?_⟩
   exact Rg.below_setRow (hbk.trans (HB2.out.mono hbk.size)) (Nat.le_refl _) _
end Sha
end Go.Proofs.YtfodadedkilgdaaGreatDoor
namespace Go.Proofs.YtfodadedkilgdaaGreatDoor
open Go.ChangeShapes Go.WideShapes Go.ChangeAt Go.RowKit Mem
namespace Wrap
set_option maxRecDepth 100000 in
theorem own:ownKnob Tryz.prog.godebug=none:=by kernel_rfl
set_option maxRecDepth 100000 in
theorem laidOut:laidOutB Tryz.prog=true:=by kernel_rfl
set_option maxRecDepth 100000 in
theorem mapsRow:mapsRowed Tryz.prog=true:=by kernel_rfl
set_option maxRecDepth 100000 in
theorem sliceFull:((List.range Tryz.prog.types.size).all fun t=>match Tryz.prog.underlying t with | some (.slice e)=>decide (0<Tryz.prog.cellsOf e) | _=>true)=true:=by kernel_rfl
section
variable {H:Type} {enc:TypeId×Value→H} {P:Program}
set_option maxRecDepth 100000 in
theorem post_of_below {f:Func} {s:ChangeSpec} {apart fresh handsOn again:Bool} {W W':World} {args:Array Value} {v:Value} {ds gs:List (DataW H)} {before pa pv:List MemPlace}
 (hW:DataW.Whole enc P f.params.toList s.vars apart W args.toList ds gs before)
 (hres : ∀ (b:Nat) (sp:Nat→Bool) (hd:Bool),DataW.TrodAll enc P W' b sp hd f.resultTypes.toList (v.resultList f.resultTypes.size) (s.fn H (ds++gs)).results [])
 (hargs : ∀ sp:Nat→Bool,(∀ p∈before,sp p.block=true)→DataW.TrodAll enc P W' 0 sp true f.params.toList args.toList (s.fn H (ds++gs)).args pa)
 (hvars : ∀ sp:Nat→Bool,(∀ p∈before,sp p.block=true)→DataW.TrodVars enc P W' sp s.vars (s.fn H (ds++gs)).vars pv)
 (hps:before=pa++pv) (hb:Below W.heap.size W W')
 (hok : ∀ (j:Nat) (t:TypeId) (r:Value),f.resultTypes[j]? = some t→(v.resultList f.resultTypes.size)[j]? = some r→Value.okWide P W' .any 0 t r) :
 s.post enc P f apart fresh handsOn again W args v W':=by
 have hlt : ∀ p∈before,p.block<W.heap.size:=fun p hp=>hW.lt p hp
 have hold : ∀ p∈before,(fun b=>decide (b<W.heap.size)) p.block=true:=fun p hp=>by simpa using hlt p hp
 refine ⟨ds,gs,before,[],pa,pv,hW,hres _ _ _,hargs _ hold,hvars _ hold,World.keptBut_mono (fun p hp=>⟨hp,?_⟩) (hb.frame (· ∈ before)),fun _ => ?_⟩
 ·rw [hps,List.mem_append] at hp
  exact Or.inr hp
 ·obtain ⟨_,_,_,_,_,hz,hn⟩:=hW
  refine ⟨hok,_,_,([]++pa)++pv,⟨[]++pa,pv,trodAll_append (hargs _ (fun _ _=>rfl)) (hres _ _ _),hvars _ (fun _ _=>rfl),rfl,?_,?_⟩,?_⟩
  ·intro b off hp
   have hin:MemPlace.cell b off∈before:=by rw [hps]; simpa using hp
   rw [hb.frozen (hlt _ hin)]
   exact hz b off hin
  ·intro ha
   have:=hn ha
   rw [hps] at this
   simpa using this
  ·intro p hp _
   rw [hps]
   simpa using hp
set_option maxRecDepth 100000 in
theorem trodAll_carry {w w':World} {base:Nat} {spare:Nat→Bool} {held:Bool} : ∀ {ts:List TypeId} {vs:List Value} {ds:List (DataW H)} {ps:List MemPlace},
 DataW.TrodAll enc P w base spare held ts vs ds ps→(∀ p∈ps,w.sameAt w' p)→DataW.TrodAll enc P w' base spare held ts vs ds ps
 | [],[],[],_,h,_=>h
 | _::_,_::_,_::_,_,⟨p,q,⟨n,h1⟩,h2,e⟩,hs =>
   ⟨p,q,⟨n,DataW.trod_carry n _ _ _ h1 (fun x hx=>hs x (by rw [e]; exact List.mem_append_left _ hx))⟩,trodAll_carry h2 (fun x hx=>hs x (by rw [e]; exact List.mem_append_right _ hx)),e⟩
set_option maxRecDepth 100000 in
theorem law_post {f:Func} {s:ChangeSpec} {t:TypeId} {apart fresh handsOn again:Bool} {W W':World} {args:Array Value} {ds gs:List (DataW H)} {before:List MemPlace}
 (hl:laidOutB P=true) (hm:mapsRowed P=true) (hz:((List.range P.types.size).all fun t=>match P.underlying t with | some (.slice e)=>decide (0<P.cellsOf e) | _=>true)=true)
 (hts:(f.params.toList.all fun t=>decide (t<P.types.size))=true) (hr:f.resultTypes = #[t]) (ht:P.underlying t=some .bool) (hv:s.vars = [])
 (hW:DataW.Whole enc P f.params.toList s.vars apart W args.toList ds gs before) (hs : ∀ gs,gs = []→s.fn H (ds++gs) = {results := [.lit (.bool true)],args:=ds}) (hb:Below W.heap.size W W') :
 s.post enc P f apart fresh handsOn again W args (.bool true) W':=by
 have hlt : ∀ p∈before,p.block<W.heap.size:=fun p hp=>hW.lt p hp
 have hW0:=hW
 obtain ⟨p,q,hA,hV,rfl,_,_⟩:=hW0
 rw [hv] at hV
 obtain ⟨rfl,rfl⟩:=trodVars_none hV
 have hs':=hs [] rfl
 refine post_of_below (pa:=p) (pv := []) hW ?_ ?_ ?_ rfl hb (ok_one hr rfl (okWide_bool_mk ht _))
 ·intro b sp hd
  rw [hs',hr]
  exact trodAll_mk1 (shut_bool ht true)
 ·intro sp hsp
  rw [hs']
  refine trodAll_carry (w:=W) ((DataW.TrodAll.respare (kids_rows hl hm) (slices_full_of P hz) (fun t ht => ?_) hA) (fun x hx=>hsp x (List.mem_append_left _ hx))) (fun x hx=>hb.same (hlt x (List.mem_append_left _ hx)))
  have:=List.all_eq_true.1 hts t ht
  simpa using this
 ·intro sp _
  rw [hs',hv]
  exact rfl
set_option maxRecDepth 100000 in
theorem laid_mem {W:World} : ∀ {laid:List (String×DataW Unit)} {ps:List MemPlace},DataW.LaidVars P W laid ps → ∀ x∈laid,∃ g t cs fuel p,P.globalNamed x.1=some g∧(P.globals[g]?).map (·.type)=some t∧W.var? P x.1=some cs ∧
 DataW.trod (fun _=>()) P W 0 (fun _=>true) false fuel t cs.toList=some (x.2,p)
 | [],_,_,x,hx=>by cases hx
 | (n,d)::r,ps,h,x,hx=>by
   obtain ⟨g,t,cs,fuel,p,q,h1,h2,h3,h4,h5,_⟩:=h
   rcases List.mem_cons.1 hx with rfl | hx
   · exact ⟨g,t,cs,fuel,p,h1,h2,h3,h4⟩
   · exact laid_mem h5 x hx
set_option maxRecDepth 100000 in
theorem tab_row {W:World} {name:String} {k:IntKind} {zs:List Int} {laid:List (String×DataW Unit)} {g:Nat} {t e:TypeId} {n:Nat}
 (hg:P.globalNamed name=some g) (hty:(P.globals[g]?).map (·.type)=some t) (ht:P.underlying t=some (.array n e)) (he:P.underlying e=some (.int k)) (hce:P.cellsOf e=1) (hct:P.cellsOf t=n)
 (h:laidMet P laid W) (hx:(name,Lib.tabData k zs)∈laid) : ∃ t' f,W.heap[g]? = some (.cells (zs.map fun z=>Value.int k z).toArray t' f):=by
 obtain ⟨ps,h,_⟩:=h
 obtain ⟨g',t',cs,fuel,p,hg',ht',hvar,hd⟩:=laid_mem h _ hx
 obtain rfl:=Option.some.inj (hg.symm.trans hg')
 obtain rfl:=Option.some.inj (hty.symm.trans ht')
 have hc:=Lib.cells_of_tab ht he hce hct hd
 unfold World.var? at hvar
 rw [hg] at hvar
 simp only [Option.bind_some] at hvar
 split at hvar
 ·rename_i cs' t' f hh
  cases hvar
  exact ⟨t',f,by rw [hh,← hc]⟩
 · cases hvar
end
set_option maxRecDepth 100000 in
theorem sha_tabs {W:World} {laid:List (String×DataW Unit)} (h:laidMet Tryz.prog laid W) (h1:("custumal/sha2.start",Rows.laid_custumal_sha2_start)∈laid) (h2:("custumal/sha2.rounds",Rows.laid_custumal_sha2_rounds)∈laid):Sha.Tabs W :=
 ⟨tab_row (zs:=Sha.HH.map Bits.n32) (g:=5) (t:=293) (e:=292) (n:=8) (by kernel_rfl) (by kernel_rfl) (by kernel_rfl) (by kernel_rfl) (by kernel_rfl) (by kernel_rfl) h (by exact h1),
  tab_row (zs:=Sha.KK.map Bits.n32) (g:=9) (t:=336) (e:=292) (n:=64) (by kernel_rfl) (by kernel_rfl) (by kernel_rfl) (by kernel_rfl) (by kernel_rfl) (by kernel_rfl) h (by exact h2)⟩
end Wrap
end Go.Proofs.YtfodadedkilgdaaGreatDoor

/- A part of the proof. Plain; no condition. -/
import Derived.Test.YtfodadedkilgdaaGreatDoorP31
import Derived.Test.YtfodadedkilgdaaGreatDoorP26
import Derived.Test.YtfodadedkilgdaaGreatDoorP25
import Derived.Test.YtfodadedkilgdaaGreatDoorP30
namespace Go.Proofs.YtfodadedkilgdaaGreatDoor
set_option linter.unusedVariables false
set_option linter.unusedSimpArgs false
open Go.RowKit Bits Mem Sha
namespace Sca
open Fld hiding SubAt SubAt.start sub_any infoE infoL run_idxE PrAt PrAt.start PrAt.next product_any
theorem infoLn (l:List Nat) (hl:l.length=4):(Tryz.prog.info? 171).map (·.size)=some (wN l).size:=by rw [wN_size,hl]; exact infoE
theorem prod_lt {a b:List Nat} (ha:W4s a) (hb:W4s b):val a*val b<18446744073709551616^8:=by
 have h1:=val_lt a ha.2
 have h2:=val_lt b hb.2
 rw [ha.1] at h1
 rw [hb.1] at h2
 exact Nat.lt_of_le_of_lt (Nat.mul_le_mul (Nat.le_pred_of_lt h1) (Nat.le_pred_of_lt h2)) (by decide)
theorem run_idxE (l:List Nat) (hl:l.length=4) (i:Nat) (hi:i<4) (w:World) :
 (Instr.index 171 (.agg (wN l)) (.int .i64 (i:Int))).run Tryz.prog w = .ok (.int .u64 ((l.getD i 0:Nat):Int)) w:=by
 have hg:=wN_get l i (by omega)
 obtain ⟨i0,h1,h2⟩ : ∃ i0,Tryz.prog.info? 23=some i0∧i0.size=1:=by
  have:(Tryz.prog.info? 23).map (·.size)=some 1:=by kernel_rfl
  obtain ⟨i0,h1,h2⟩:=Option.map_eq_some_iff.1 this
  exact ⟨i0,h1,h2⟩
 simp [Instr.index,asIntOf,Sem.run_bind,run_underlying Tryz.underlying171,run_underlying Tryz.underlying23,sizeOf,typeInfo,h1,h2,part,isAgg,hg]
 intro h; omega
structure PrAt (w:World) (a b D:List Nat) (g:Nat) (wr:World):Prop where
 ra:wr.heap[g]? = some (.cells (wN a) 171 (0,0))
 rb:wr.heap[g+1]? = some (.cells (wN b) 171 (0,0))
 rz:wr.heap[g+1+1]? = some (.cells (sn 0) 171 (0,0))
 rd:wr.heap[g+1+1+1]? = some (.cells (wN D) 223 (0,0))
 be:Below w.heap.size w wr
theorem PrAt.start (w:World) (a b:List Nat):PrAt w a b (List.replicate 8 0) w.heap.size ((((w.alloc (.cells (wN a) 171)).alloc (.cells (wN b) 171)).alloc (.cells (sn 0) 171)).alloc (.cells (wN (List.replicate 8 0)) 223)):=by
 refine ⟨?_,?_,?_,?_,(((((Below.refl _ _).alloc (Nat.le_refl _) _).alloc (by simp) _).alloc (by simp; omega) _).alloc (by simp; omega) _)⟩
 · exact (Rg.heap_alloc_past _ _ _ (by simp; omega)).trans ((Rg.heap_alloc_past _ _ _ (by simp; omega)).trans ((Rg.heap_alloc_past _ _ _ (by simp)).trans (Rg.heap_alloc_at _ _ _ rfl)))
 · exact (Rg.heap_alloc_past _ _ _ (by simp)).trans ((Rg.heap_alloc_past _ _ _ (by simp)).trans (Rg.heap_alloc_at _ _ _ (by simp)))
 · exact (Rg.heap_alloc_past _ _ _ (by simp)).trans (Rg.heap_alloc_at _ _ _ (by simp))
 · exact Rg.heap_alloc_at _ _ _ (by simp)
theorem PrAt.next {w wr:World} {a b D:List Nat} {g:Nat} (h:PrAt w a b D g wr) (hg:g=w.heap.size) (D':List Nat):PrAt w a b D' g (wr.setRow (g+1+1+1) (wN D')) :=
 ⟨(setRow_otherE _ _ (by omega)).trans h.ra,(setRow_otherE _ _ (by omega)).trans h.rb,(setRow_otherE _ _ (by omega)).trans h.rz,setRow_heap _ _ _ _ _ _ h.rd,Rg.below_setRow h.be (by omega) _⟩
set_option maxRecDepth 100000 in
set_option maxHeartbeats 4000000 in
theorem mul_any (a b:List Nat) (w:World) (ha:W4s a) (hb:W4s b) (hO:OT w) :
 Calls Tryz.prog 58 #[.agg (wN a),.agg (wN b)] w fun e w'=>e = .returned (.agg (sn (val a*val b%Q)))∧Below w.heap.size w w':=by
 have HA:=Lib.hid ha
 have HB:=Lib.hid hb
 have HST:=Lib.hid (PrAt.start w a b)
 have HOW:=Lib.hid (outerK_words ha hb)
 have HVW:=Lib.hid (val_words 8 _ (prod_lt ha hb))
 have HOT:=Lib.hid hO
 clear ha hb hO
 rw [← HVW.out,← HOW.out]
 go_enter Tryz.func58,Tryz.ntmps58
 have HIA:=Lib.hid (infoLn a HA.out.1)
 go_upto_region 2 with fail
 rw [sn_zero,← zN8]
 obtain ⟨w0,hw0⟩ : ∃ w0,w0=((((w.alloc (.cells (wN a) 171)).alloc (.cells (wN b) 171)).alloc (.cells (sn 0) 171)).alloc (.cells (wN (List.replicate 8 0)) 223)):=⟨_,rfl⟩
 rw [← hw0] at HST ⊢
 clear hw0
 go_wp2_with (refine wpList_load_row rfl 171 _ rfl w.heap.size rfl 171 (wN a) (0,0) _ HST.out.ra Tryz.underlying171 rfl HIA.out ?_)
 go_loopw [16] (fun v wr => ∃ i:Nat,i≤4∧v = .int .i64 (i:Int)∧Hid (PrAt w a b (outerK a b i) w.heap.size wr)) (fun v _=>4-(intOf v).toNat)
 case atStart=>exact ⟨0,by omega,rfl,HST⟩
 case round =>
  clear HST
  obtain ⟨i,hi,rfl,HR⟩:=hrel
  by_cases hlt:i<4
  ·have g1:=wN_get a i (by rw [HA.out.1]; exact hlt)
   have HIB:=Lib.hid (infoLn b HB.out.1)
   have hxl:=HA.out.at i
   obtain ⟨x,hx⟩ : ∃ x,x=a.getD i 0:=⟨_,rfl⟩
   have HIX:Hid (∀ w,(Instr.index 171 (.agg (wN a)) (.int .i64 (i:Int))).run Tryz.prog w = .ok (.int .u64 (x:Int)) w):=Lib.hid (fun w=>by rw [hx]; exact run_idxE a HA.out.1 i hlt w)
   rw [← hx] at hxl
   have HX:=Lib.hid hx
   have q1:(i:Int)<4:=by omega
   clear hx
   obtain ⟨g,hg⟩ : ∃ g,g=w.heap.size:=⟨_,rfl⟩
   rw [← hg] at HR ⊢
   have HG:=Lib.hid hg
   clear hg
   go_wp2_with fail
   rw [HIX.out]
   go_wp2_with (refine wpList_load_row rfl 171 _ rfl (g+1) rfl 171 (wN b) (0,0) _ HR.out.rb Tryz.underlying171 rfl HIB.out ?_)
   obtain ⟨O,hO⟩ : ∃ O,O=outerK a b i:=⟨_,rfl⟩
   have hOl:=outerK_length a b i
   have hOB:=outerK_lt HA.out.2 HB.out.2 i
   rw [← hO] at HR hOl hOB
   have HO:=Lib.hid hO
   have HOL:=Lib.hid hOl
   have HOB:=Lib.hid hOB
   have HIN:=Lib.hid (fun k=>innerK_lt (i:=i) hxl HB.out.2 hOB k)
   clear hO hOl hOB
   go_loopw [8,21] (fun c v wr' => ∃ k:Nat,k≤4∧v = .int .i64 (k:Int)∧c = .int .u64 (((innerK x b i O k).2:Nat):Int)∧Hid (PrAt w a b (innerK x b i O k).1 g wr')) (fun _ v _=>4-(intOf v).toNat)
   case atStart=>exact ⟨0,by omega,rfl,rfl,HR⟩
   case round =>
    clear HR
    obtain ⟨k,hk,rfl,rfl,HQ⟩:=hrel
    by_cases hlk:k<4
    ·have q2:(k:Int)<4:=by omega
     obtain ⟨D,hD⟩ : ∃ D,D=(innerK x b i O k).1:=⟨_,rfl⟩
     obtain ⟨c,hc⟩ : ∃ c,c=(innerK x b i O k).2:=⟨_,rfl⟩
     obtain ⟨y,hy⟩ : ∃ y,y=b.getD k 0:=⟨_,rfl⟩
     obtain ⟨j,hj⟩ : ∃ j,j=i+k:=⟨_,rfl⟩
     obtain ⟨z,hz⟩ : ∃ z,z=D.getD j 0:=⟨_,rfl⟩
     have hDl:D.length=8:=by rw [hD,innerK_length]; exact HOL.out
     have hyl:y<18446744073709551616:=by rw [hy]; exact HB.out.at k
     have hzl:z<18446744073709551616:=by rw [hz,hD]; exact at_lt (HIN.out k).1 j
     have hcl:c<18446744073709551616:=by rw [hc]; exact (HIN.out k).2
     rw [← hD] at HQ
     rw [← hc]
     have HIY:Hid (∀ w,(Instr.index 171 (.agg (wN b)) (.int .i64 (k:Int))).run Tryz.prog w = .ok (.int .u64 (y:Int)) w):=Lib.hid (fun w=>by rw [hy]; exact run_idxE b HB.out.1 k hlk w)
     have HM0:=mul64_any x y hxl hyl
     have hst:innerK x b i O (k+1)=(D.set j ((x*y+z+c)%WB),(x*y+z+c) / WB):=by
      unfold innerK
      rw [← hD,← hc,← hy,← hj,← hz]
     have hpl:x*y / 18446744073709551616≤18446744073709551614:=by
      have:x*y≤18446744073709551615*18446744073709551615:=Nat.mul_le_mul (by omega) (by omega)
      omega
     have hpz:=Nat.div_lt_of_lt_mul (step_lt hxl hyl hzl hcl)
     obtain ⟨p,hp⟩ : ∃ p,p=x*y:=⟨_,rfl⟩
     rw [← hp] at HM0 hst hpl hpz
     obtain ⟨h0,hh0⟩ : ∃ h,h=p / 18446744073709551616:=⟨_,rfl⟩
     obtain ⟨l0,hl0⟩ : ∃ l,l=p%18446744073709551616:=⟨_,rfl⟩
     rw [← hh0,← hl0] at HM0
     obtain ⟨s1,hs1⟩ : ∃ s,s=(l0+z)%18446744073709551616:=⟨_,rfl⟩
     obtain ⟨o1,ho1⟩ : ∃ o,o=(l0+z) / 18446744073709551616:=⟨_,rfl⟩
     obtain ⟨s2,hs2⟩ : ∃ s,s=(s1+c)%18446744073709551616:=⟨_,rfl⟩
     obtain ⟨o2,ho2⟩ : ∃ o,o=(s1+c) / 18446744073709551616:=⟨_,rfl⟩
     obtain ⟨h1,hh1⟩ : ∃ h,h=h0+o1:=⟨_,rfl⟩
     obtain ⟨h2,hh2⟩ : ∃ h,h=h1+o2:=⟨_,rfl⟩
     have HE1:Hid ((p+z+c)%WB=s2):=Lib.hid (by unfold WB; omega)
     have HE2:Hid ((p+z+c) / WB=h2):=Lib.hid (by unfold WB; omega)
     have hc1 : ∀ w:World,(callFunc 95 #[.int .u64 (l0:Int),.int .u64 (z:Int),.int .u64 0]).run Tryz.prog w = .ok (.value (.tuple #[.int .u64 (s1:Int),.int .u64 (o1:Int)])) w:=fun w=>by
      rw [Ab.add64_run (l0:Int) (z:Int) 0 (by omega) (by omega) (by omega) (by omega) w]
      rw [show ((l0:Int)+z+0)%18446744073709551616=(s1:Int) by omega,show ((l0:Int)+z+0) / 18446744073709551616=(o1:Int) by omega]
     have hc2 : ∀ w:World,(callFunc 95 #[.int .u64 (s1:Int),.int .u64 (c:Int),.int .u64 0]).run Tryz.prog w = .ok (.value (.tuple #[.int .u64 (s2:Int),.int .u64 (o2:Int)])) w:=fun w=>by
      rw [Ab.add64_run (s1:Int) (c:Int) 0 (by omega) (by omega) (by omega) (by omega) w]
      rw [show ((s1:Int)+c+0)%18446744073709551616=(s2:Int) by omega,show ((s1:Int)+c+0) / 18446744073709551616=(o2:Int) by omega]
     have hwj:IntKind.i64.wrap ((i:Int)+(k:Int))=(j:Int):=by rw [IntKind.wrap_i64]; omega
     have hw1:IntKind.u64.wrap ((h0:Int)+(o1:Int))=(h1:Int):=by rw [IntKind.wrap_u64]; omega
     have hb2:h2<18446744073709551616:=by have:=HE2.out; rw [this] at hpz; exact hpz
     have hw2:IntKind.u64.wrap ((h1:Int)+(o2:Int))=(h2:Int):=by rw [IntKind.wrap_u64]; omega
     have q3:(j:Int)<8:=by omega
     have hcell:wr.cell? ⟨g+1+1+1,j,none⟩=some (.int .u64 (z:Int)):=(cell_of_row _ _ _ _ _ _ HQ.out.rd).trans (by rw [hz]; exact wN_get D j (by omega))
     have hfroz:wr.frozen? ⟨g+1+1+1,j,none⟩=false:=frozen_of_row _ _ _ _ _ HQ.out.rd
     obtain ⟨wn,hwn⟩ : ∃ wn,wn=wr.setCell ⟨g+1+1+1,j,none⟩ (.int .u64 (s2:Int)):=⟨_,rfl⟩
     have hQ2:PrAt w a b (innerK x b i O (k+1)).1 g wn:=by
      rw [hst,HE1.out,hwn,setCell_eq_setRow wr (g+1+1+1) j _ _ _ _ HQ.out.rd,wN_set]
      exact HQ.out.next HG.out _
     have HC2:Hid ((innerK x b i O (k+1)).2=h2):=Lib.hid (by rw [hst,HE2.out])
     have HQ2:=Lib.hid hQ2
     have HWN:=Lib.hid hwn
     have HM:=Lib.hid HM0
     clear hD hc hy hj hz hDl hyl hzl hcl HM0 hst hpl hpz hb2 hp hh0 hl0 hs1 ho1 hs2 ho2 hh1 hh2 HQ hQ2 hwn
     go_wp2_with fail
     rw [HIY.out]
     go_wp2_with fail
     refine (HM.out wr).mono ?_
     rintro e w' ⟨rfl,rfl⟩
     go_wp2_with fail
     exact ⟨⟨k+1,by omega,by congr 1,by rw [HC2.out],by rw [← HWN.out]; exact HQ2⟩,by simp only [intOf]; omega⟩
    ·obtain rfl:k=4:=by omega
     obtain ⟨D,hD⟩ : ∃ D,D=(innerK x b i O 4).1:=⟨_,rfl⟩
     obtain ⟨c,hc⟩ : ∃ c,c=(innerK x b i O 4).2:=⟨_,rfl⟩
     obtain ⟨j,hj⟩ : ∃ j,j=i+4:=⟨_,rfl⟩
     have hDl:D.length=8:=by rw [hD,innerK_length]; exact HOL.out
     have hst:outerK a b (i+1)=D.set j c:=by
      unfold outerK
      rw [← HX.out,← HO.out,← hD,← hc,hj]
     rw [← hD] at HQ
     rw [← hc]
     have hwj:IntKind.i64.wrap ((i:Int)+4)=(j:Int):=by rw [IntKind.wrap_i64]; omega
     have q3:(j:Int)<8:=by omega
     have hcell:wr.cell? ⟨g+1+1+1,j,none⟩=some (.int .u64 ((D.getD j 0:Nat):Int)):=(cell_of_row _ _ _ _ _ _ HQ.out.rd).trans (wN_get D j (by omega))
     have hfroz:wr.frozen? ⟨g+1+1+1,j,none⟩=false:=frozen_of_row _ _ _ _ _ HQ.out.rd
     obtain ⟨wn,hwn⟩ : ∃ wn,wn=wr.setCell ⟨g+1+1+1,j,none⟩ (.int .u64 (c:Int)):=⟨_,rfl⟩
     have hQ2:PrAt w a b (outerK a b (i+1)) g wn:=by
      rw [hst,hwn,setCell_eq_setRow wr (g+1+1+1) j _ _ _ _ HQ.out.rd,wN_set]
      exact HQ.out.next HG.out _
     have HQ2:=Lib.hid hQ2
     have HWN:=Lib.hid hwn
     have hn4 : ¬ ((4:Nat):Int)<4:=by omega
     have q1':(i:Int)<4:=by omega
     clear hD hc hj hDl hst HQ hQ2 hwn
     go_wp2_with fail
     exact ⟨⟨i+1,by omega,by congr 1,by rw [← HWN.out]; exact HQ2⟩,by simp only [intOf]; omega⟩
  ·obtain rfl:i=4:=by omega
   obtain ⟨D,hD⟩ : ∃ D,D=outerK a b 4:=⟨_,rfl⟩
   have hDl:D.length=8:=by rw [hD]; exact outerK_length a b 4
   have hDx : ∀ x∈D,x<WB:=by rw [hD]; exact outerK_lt HA.out.2 HB.out.2 4
   have HDE:=Lib.hid hD
   rw [← hD] at HR
   obtain ⟨R,hR⟩ : ∃ R,R=val D%Q:=⟨_,rfl⟩
   have HF0:=fold_sn D hDx (by rw [hDl]; decide) (w.heap.size+1+1+1) 8 wr (lt_of_heap HR.out.rd) (fun j hj=>(cell_of_row _ _ _ _ _ _ HR.out.rd).trans (wN_get D j hj)) (HOT.out.below HR.out.be)
   rw [hDl,← hR] at HF0
   have HF:=Lib.hid HF0
   have HRE:=Lib.hid hR
   have HZ:Hid ((sn 0).size=(sn R).size):=Lib.hid (by rw [sn_size,sn_size])
   have HI:=Lib.hid (infoSn R)
   obtain ⟨g,hg⟩ : ∃ g,g=w.heap.size:=⟨_,rfl⟩
   rw [← hg] at HR HF ⊢
   have HG:=Lib.hid hg
   have hn4 : ¬ ((4:Nat):Int)<4:=by omega
   clear hD hDl hDx hR hg HF0
   go_wp2_with (first | refine l_arr rfl _ rfl _ _ _ _ rfl (by decide) ?_)
   refine HF.out.mono ?_
   rintro e w2 ⟨rfl,hb⟩
   have HZ2:Hid (w2.heap[g+1+1]? = some (.cells (sn 0) 171 (0,0))):=Lib.hid (Rp.row_le hb HR.out.rz)
   have HB2:=Lib.hid (HR.out.be.trans (hb.mono HR.out.be.size))
   clear hb
   go_wp2_with (refine Rg.store_row rfl 171 _ _ rfl (g+1+1) rfl 171 (sn 0) (sn R) rfl HZ2.out HI.out HZ.out (sn_one _) ?_)
   refine bodyPost_ret (v := .agg (sn R)) (results_cell_row (P:=Tryz.prog) rfl _ _ (g+1+1) 171 (sn R) (0,0) _ rfl (setRow_heap _ _ _ _ 171 _ HZ2.out) Tryz.underlying171 rfl HI.out) rfl ⟨by rw [HRE.out,HDE.out],Rg.below_setRow HB2.out (by have:=HG.out; omega) _⟩
end Sca
end Go.Proofs.YtfodadedkilgdaaGreatDoor
namespace Go.Proofs.YtfodadedkilgdaaGreatDoor
set_option linter.unusedVariables false
set_option linter.unusedSimpArgs false
open Go.RowKit Bits Mem Sha
namespace Sca
open Fld hiding SubAt SubAt.start sub_any infoE add_any
structure AdAt (w:World) (a b D:List Nat) (g d:Nat) (wr:World):Prop where
 ra:wr.heap[g]? = some (.cells (wN a) 171 (0,0))
 rb:wr.heap[g+1]? = some (.cells (wN b) 171 (0,0))
 rz:wr.heap[g+1+1]? = some (.cells (sn 0) 171 (0,0))
 rd:wr.heap[d]? = some (.cells (wN D) 171 (0,0))
 gt:g+1+1<d
 be:Below w.heap.size w wr
theorem w4s_words (n:Nat):W4s (words n 4):=⟨words_length 4 n,words_lt 4 n⟩
set_option maxRecDepth 100000 in
set_option maxHeartbeats 2000000 in
theorem add_sn (m0 n0:Nat) (hm0:m0<W4) (hn0:n0<W4) (w:World) (hO:OT w):Calls Tryz.prog 57 #[.agg (sn m0),.agg (sn n0)] w fun e w'=>e = .returned (.agg (sn ((m0+n0)%Q)))∧Below w.heap.size w w':=by
 obtain ⟨w1,hw1⟩ : ∃ w1,w1=((w.alloc (.cells (sn m0) 171)).alloc (.cells (sn n0) 171)).alloc (.cells (sn 0) 171):=⟨_,rfl⟩
 have hb1:Below w.heap.size w w1:=by rw [hw1]; exact (((Below.refl _ _).alloc (Nat.le_refl _) _).alloc (by simp) _).alloc (by simp; try omega) _
 obtain ⟨g,hg⟩ : ∃ g,g=w.heap.size:=⟨_,rfl⟩
 have hr0:w1.heap[g]? = some (.cells (sn m0) 171 (0,0)):=by rw [hw1,hg]; exact (Rg.heap_alloc_past _ _ _ (by simp; try omega)).trans ((Rg.heap_alloc_past _ _ _ (by simp)).trans (Rg.heap_alloc_at w _ _ rfl))
 have hr1:w1.heap[g+1]? = some (.cells (sn n0) 171 (0,0)):=by rw [hw1,hg]; exact (Rg.heap_alloc_past _ _ _ (by simp)).trans (Rg.heap_alloc_at _ _ _ (by simp))
 have hr2:w1.heap[g+1+1]? = some (.cells (sn 0) 171 (0,0)):=by rw [hw1,hg]; exact Rg.heap_alloc_at _ _ _ (by simp)
 obtain ⟨a1,ha1⟩ : ∃ a1,a1=m0%Q:=⟨_,rfl⟩
 obtain ⟨b1,hbb1⟩ : ∃ b1,b1=n0%Q:=⟨_,rfl⟩
 have hfold : ∀ (k k1 b:Nat),k<W4→k1=k%Q → ∀ x:World,OT x→x.heap[b]? = some (.cells (sn k) 171 (0,0))→Calls Tryz.prog 90 #[.slice (some ⟨b,0,none⟩) 4 4] x fun e w'=>e = .returned (.agg (sn k1))∧Below x.heap.size x w':=fun k k1 b hk hk1 x hx hb=>by
  have h:=fold_sn (words k 4) (words_lt 4 k) (by rw [words_length]; decide) b 4 x (lt_of_heap hb) (fun j hj=>(cell_of_row _ _ _ _ _ _ hb).trans (wN_get _ j hj)) hx
  rw [words_length,val_words 4 k (by rw [W4_pow]; exact hk),← hk1] at h
  exact h
 have HC1:=Lib.hid (hfold m0 a1 g hm0 ha1)
 have HC2:=Lib.hid (hfold n0 b1 (g+1) hn0 hbb1)
 have HFE:Hid ((m0+n0)%Q=(a1+b1)%Q):=Lib.hid (by rw [ha1,hbb1,Nat.add_mod])
 have HA1:Hid (a1<Q):=Lib.hid (by rw [ha1]; exact Nat.mod_lt _ Q_pos)
 have HB1:Hid (b1<Q):=Lib.hid (by rw [hbb1]; exact Nat.mod_lt _ Q_pos)
 obtain ⟨a,hae⟩ : ∃ a,a=words a1 4:=⟨_,rfl⟩
 obtain ⟨b,hbe⟩ : ∃ b,b=words b1 4:=⟨_,rfl⟩
 have HA:Hid (W4s a):=Lib.hid (by rw [hae]; exact w4s_words _)
 have HB:Hid (W4s b):=Lib.hid (by rw [hbe]; exact w4s_words _)
 have HAE:=Lib.hid hae
 have HBE:=Lib.hid hbe
 have HSA:Hid (sn a1=wN a):=Lib.hid (by rw [hae]; rfl)
 have HSB:Hid (sn b1=wN b):=Lib.hid (by rw [hbe]; rfl)
 have HR0:=Lib.hid hr0
 have HR1:=Lib.hid hr1
 have HR2:=Lib.hid hr2
 have HBW:=Lib.hid hb1
 have HW1:=Lib.hid hw1
 have HO:=Lib.hid hO
 have HG:=Lib.hid hg
 have hl1:g+1+1<w1.heap.size:=lt_of_heap hr2
 have HL1:=Lib.hid hl1
 have HZA:Hid ((sn m0).size=(sn a1).size):=Lib.hid (by simp only [sn_size])
 have HZB:Hid ((sn n0).size=(sn b1).size):=Lib.hid (by simp only [sn_size])
 have HO1:=Lib.hid (hO.below hb1)
 have HOL:Hid ((2:Nat)<g):=Lib.hid (by rw [hg]; exact GRow.lt hO)
 clear hb1 hr0 hr1 hr2 hw1 hO hm0 hn0 hae hbe ha1 hbb1 hfold
 go_enter Tryz.func57,Tryz.ntmps57
 go_upto_region 1 with fail
 rw [sn_zero,← HW1.out,← HG.out]
 clear hg
 go_wp2_with fail
 refine Re.region (fun k=>k<w1.heap.size ∧ ¬ (k=g) ∧ ¬ (k=g+1)) 6 [⟨1,[],[],some (fun _ _ => .agg (sn a1)),fun _ _ F y=>y.heap[g]? = some (.cells (sn m0) 171 (0,0))∧F g,(· = g),[]⟩,⟨3,[],[],some (fun _ _ => .agg (sn b1)),fun _ _ F y=>y.heap[g+1]? = some (.cells (sn n0) 171 (0,0))∧F (g+1),(· = g+1),[]⟩,⟨4,[1],[1],some (fun _ _=>undef),fun _ _ _ y=>y.heap[g]? = some (.cells (sn a1) 171 (0,0)),Re.free,[]⟩,⟨5,[3],[3],some (fun _ _=>undef),fun _ _ _ y=>y.heap[g+1]? = some (.cells (sn b1) 171 (0,0)),Re.free,[]⟩] [4,5] (by kernel_rfl) (Re.own_two (q1:=(· = g)) (q2:=(· = g+1)) (i1:=1) (i2:=3) (fun k hk=>by have hk:k=g:=hk; show k<w1.heap.size; omega) (fun k hk=>by have hk:k=g+1:=hk; show k<w1.heap.size; omega) (fun k h1 h2=>by have h1:k=g:=h1; have h2:k=g+1:=h2; omega) (by intro s hs; simp only [List.mem_cons,List.not_mem_nil,or_false] at hs; rcases hs with rfl | rfl | rfl | rfl; exact .inr (.inl ⟨rfl,rfl⟩); exact .inr (.inr ⟨rfl,rfl⟩); exact .inl rfl; exact .inl rfl)) (by kernel_rfl) ?_; intro p; simp only [List.take,List.drop]
 iterate 1 (refine Re.rK rfl rfl ?_; intro K hK; apply Exists.intro; refine ⟨?_,?_⟩; (focus (intro x hx;  go_simp; (first | (fail) | ((try go_bits); (try go_simp); (try rfl))))); go_simp; refine hK _ ?_; clear hK K)
 refine Re.cK rfl rfl rfl ?_ ?_
 ·intro x Fs hx ho hg K hK
  have H8:=Lib.hid ((ho (g) rfl).trans HR0.out)
  have hox:OT x:=GRow.same HO1.out (hx.block _ ⟨by have:=HOL.out; have:=HL1.out; omega,by have:=HOL.out; omega,by have:=HOL.out; omega⟩)
  have HC:=Lib.hid (HC1.out x hox H8.out)
  clear hx ho hg hox
  go_wp2_with fail
  refine HC.out.mono ?_
  rintro e x' ⟨rfl,hb⟩
  go_wp2_with fail
  exact hK Rc.dflt x' (Rc.Eff.of_below hb _) (fun y hy=>⟨(hy.block _ (Nat.lt_of_lt_of_le (lt_of_heap H8.out) hb.size) (.inr (.inl (.inr rfl)))).trans (Rp.row_le hb H8.out),.inl (.inr rfl)⟩)
 intro K hK; go_simp; refine hK _ ?_; clear hK K
 iterate 1 (refine Re.rK rfl rfl ?_; intro K hK; apply Exists.intro; refine ⟨?_,?_⟩; (focus (intro x hx;  go_simp; (first | (fail) | ((try go_bits); (try go_simp); (try rfl))))); go_simp; refine hK _ ?_; clear hK K)
 refine Re.cK rfl rfl rfl ?_ ?_
 ·intro x Fs hx ho hg K hK
  have H8:=Lib.hid ((ho (g+1) rfl).trans HR1.out)
  have hox:OT x:=GRow.same HO1.out (hx.block _ ⟨by have:=HOL.out; have:=HL1.out; omega,by have:=HOL.out; omega,by have:=HOL.out; omega⟩)
  have HC:=Lib.hid (HC2.out x hox H8.out)
  clear hx ho hg hox
  go_wp2_with fail
  refine HC.out.mono ?_
  rintro e x' ⟨rfl,hb⟩
  go_wp2_with fail
  exact hK Rc.dflt x' (Rc.Eff.of_below hb _) (fun y hy=>⟨(hy.block _ (Nat.lt_of_lt_of_le (lt_of_heap H8.out) hb.size) (.inr (.inl (.inr rfl)))).trans (Rp.row_le hb H8.out),.inl (.inr rfl)⟩)
 intro K hK; go_simp; refine hK _ ?_; clear hK K
 refine Re.cK rfl rfl rfl ?_ ?_
 ·intro x Fs hx ho hg K hK
  have HX:Hid (x.heap[g]? = some (.cells (sn m0) 171 (0,0))):=Lib.hid hg.1.1
  have HFS:Hid (Fs 1 (g)):=Lib.hid hg.1.2
  clear hg hx ho
  go_wp2_with (refine Rg.store_row rfl 171 _ _ rfl (g) rfl 171 (sn m0) (sn a1) rfl HX.out (infoSn a1) HZA.out (sn_one _) ?_)
  have hu:Re.used Fs ⟨4,[1],[1],some (fun _ _=>undef),fun _ _ _ y=>y.heap[g]? = some (.cells (sn a1) 171 (0,0)),Re.free,[]⟩ (g) := .inl ⟨1,by simp,HFS.out⟩
  have hgr:=grownBy_setRowE x (g) (sn a1)
  have h8':=setRow_heap x (g) _ (sn a1) _ _ HX.out
  exact hK Rc.dflt _ ⟨hgr.os,hgr.tape,hgr.output,hgr.size,fun k hk hn=>hgr.block k hk fun e=>hn (by cases e; exact hu)⟩ (fun y hy=>(hy.block _ (lt_of_heap h8') (.inr (.inl hu))).trans h8')
 intro K hK; go_simp; refine hK _ ?_; clear hK K
 refine Re.cK rfl rfl rfl ?_ ?_
 ·intro x Fs hx ho hg K hK
  have HX:Hid (x.heap[g+1]? = some (.cells (sn n0) 171 (0,0))):=Lib.hid hg.1.1
  have HFS:Hid (Fs 3 (g+1)):=Lib.hid hg.1.2
  clear hg hx ho
  go_wp2_with (refine Rg.store_row rfl 171 _ _ rfl (g+1) rfl 171 (sn n0) (sn b1) rfl HX.out (infoSn b1) HZB.out (sn_one _) ?_)
  have hu:Re.used Fs ⟨5,[3],[3],some (fun _ _=>undef),fun _ _ _ y=>y.heap[g+1]? = some (.cells (sn b1) 171 (0,0)),Re.free,[]⟩ (g+1) := .inl ⟨3,by simp,HFS.out⟩
  have hgr:=grownBy_setRowE x (g+1) (sn b1)
  have h8':=setRow_heap x (g+1) _ (sn b1) _ _ HX.out
  exact hK Rc.dflt _ ⟨hgr.os,hgr.tape,hgr.output,hgr.size,fun k hk hn=>hgr.block k hk fun e=>hn (by cases e; exact hu)⟩ (fun y hy=>(hy.block _ (lt_of_heap h8') (.inr (.inl hu))).trans h8')
 intro K hK; go_simp; refine hK _ ?_; clear hK K
 refine Re.done fun x Fs hx hg => ?_
 have hA:x.heap[g]? = some (.cells (sn a1) 171 (0,0)):=hg.1
 have hB:x.heap[g+1]? = some (.cells (sn b1) 171 (0,0)):=hg.2.1
 have hx':=Re.undrew hx
 have hZ:x.heap[g+1+1]? = some (.cells (sn 0) 171 (0,0)):=(hx'.block _ ⟨HL1.out,by omega,by omega⟩).trans HR2.out
 have hbx:Below w.heap.size w x:=HBW.out.trans ⟨hx'.os,hx'.tape,hx'.output,hx'.size,fun k hk=>hx'.block k ⟨by have:=HBW.out.size; omega,by have:=HG.out; omega,by have:=HG.out; omega⟩⟩
 rw [HSA.out] at hA
 rw [HSB.out] at hB
 obtain ⟨w2,hw2⟩ : ∃ w2,w2=x.alloc (.cells (wN [0,0,0,0]) 171):=⟨_,rfl⟩
 obtain ⟨d,hd⟩ : ∃ d,d=x.heap.size:=⟨_,rfl⟩
 have hlx:g+1+1<x.heap.size:=lt_of_heap hZ
 have HST:Hid (AdAt w a b [0,0,0,0] g d w2):=Lib.hid (by
  have hxb:Below x.heap.size x w2:=by rw [hw2]; exact (Below.refl _ _).alloc (Nat.le_refl _) _
  exact ⟨Rp.row_le hxb hA,Rp.row_le hxb hB,Rp.row_le hxb hZ,by rw [hw2,hd]; exact Rg.heap_alloc_at _ _ _ rfl,by omega,hbx.trans (hxb.mono hbx.size)⟩)
 have HW2:=Lib.hid hw2
 have HDD:=Lib.hid hd
 clear hx hg hA hB hx' hZ hbx hw2 hd hlx
 go_wp2_with fail
 refine NoPanic.normal ?_
 go_upto_region 3 with fail
 rw [← zN,← HW2.out,← HDD.out]
 clear HW2 HDD
 go_wp2_with fail
 go_loopw [6,14] (fun u i wr => ∃ k:Nat,k≤4∧i = .int .i64 k∧u = .int .u64 (((addK a b k).2:Nat):Int)∧Hid (AdAt w a b (addK a b k).1 g d wr)) (fun _ i _=>4-(intOf i).toNat)
 case atStart=>exact ⟨0,by omega,rfl,rfl,HST⟩
 case round =>
  clear HST
  obtain ⟨k,hk,rfl,rfl,HQ⟩:=hrel
  by_cases hlt:k<4
  ·have g1:=wN_get a k (by rw [HA.out.1]; exact hlt)
   have g2:=wN_get b k (by rw [HB.out.1]; exact hlt)
   have hle:=addK_le HA.out HB.out k
   have hD:=addK_length a b k
   obtain ⟨D,hDe⟩ : ∃ D,D=(addK a b k).1:=⟨_,rfl⟩
   obtain ⟨u,hue⟩ : ∃ u,u=(addK a b k).2:=⟨_,rfl⟩
   obtain ⟨m1,hxe⟩ : ∃ m1,m1=a.getD k 0:=⟨_,rfl⟩
   obtain ⟨m2,hye⟩ : ∃ m2,m2=b.getD k 0:=⟨_,rfl⟩
   rw [← hue] at hle
   rw [← hDe] at hD HQ
   rw [← hxe] at g1
   rw [← hye] at g2
   have HN:Hid (addK a b (k+1)=(D.set k (ad m1 m2 u),ao m1 m2 u)):=Lib.hid (by rw [hDe,hue,hxe,hye]; rfl)
   rw [← hue]
   have hcall : ∀ w:World,(callFunc 95 #[.int .u64 (m1:Int),.int .u64 (m2:Int),.int .u64 (u:Int)]).run Tryz.prog w = .ok (.value (.tuple #[.int .u64 ((ad m1 m2 u:Nat):Int),.int .u64 ((ao m1 m2 u:Nat):Int)])) w:=fun w=>by
    rw [Ab.add64_run (m1:Int) (m2:Int) (u:Int) (by omega) (by omega) (by omega) (by omega) w]
    unfold ad ao
    rw [show ((m1:Int)+m2+u)%18446744073709551616=(((m1+m2+u)%18446744073709551616:Nat):Int) by omega,show ((m1:Int)+m2+u) / 18446744073709551616=(((m1+m2+u) / 18446744073709551616:Nat):Int) by omega]
   have hgl:=(Array.getElem?_eq_some_iff.1 HQ.out.rd).1
   have hgt:=HQ.out.gt
   have HGT:=Lib.hid hgt
   have hga:(fun j=>j<wr.heap.size∧j≠d) g:=by dsimp only; omega
   have hgb:(fun j=>j<wr.heap.size∧j≠d) (g+1):=by dsimp only; omega
   have HGA:=Lib.hid hga
   have HGB:=Lib.hid hgb
   have ca : ∀ x':World,(x'.heap[g]? = wr.heap[g]?)→x'.cell? ⟨g,k,none⟩=some (.int .u64 (m1:Int)):=fun x' h=>(cell_of_row _ _ _ _ _ _ (h.trans HQ.out.ra)).trans g1
   have cb : ∀ x':World,(x'.heap[g+1]? = wr.heap[g+1]?)→x'.cell? ⟨g+1,k,none⟩=some (.int .u64 (m2:Int)):=fun x' h=>(cell_of_row _ _ _ _ _ _ (h.trans HQ.out.rb)).trans g2
   have HCA:=Lib.hid ca
   have HCB:=Lib.hid cb
   have q1:(k:Int)<4:=by omega
   have HD:=Lib.hid hD
   have HGL:=Lib.hid hgl
   clear hDe hue hxe hye hD hle g1 g2 hga hgb hgt ca cb
   go_wp2_with fail
   refine Re.region (fun j=>j<wr.heap.size∧j≠d) 14 [Re.S 13 [] [] (· = d) (fun _=>undef) (fun _ _ y'=>y'.heap[d]? = some (.cells (wN (D.set k (ad m1 m2 u))) 171 (0,0)))] [13] (by kernel_rfl) (Re.own_one (i:=13) HGL.out (by intro s hs; simp only [List.mem_cons,List.not_mem_nil,or_false] at hs; subst hs; exact .inr ⟨rfl,rfl⟩)) (by kernel_rfl) ?_; intro p; simp only [List.take,List.drop]
   iterate 13 (refine Re.rK rfl rfl ?_; intro K hK; apply Exists.intro; refine ⟨?_,?_⟩; (focus (intro x hx; have e1:=HCA.out x ((Re.undrew hx).block _ (.inl HGA.out));have e2:=HCB.out x ((Re.undrew hx).block _ (.inl HGB.out)); go_simp; (first | (fail) | ((try go_bits); (try go_simp); (try rfl))))); go_simp; refine hK _ ?_; clear hK K)
   refine Re.cK rfl rfl rfl ?_ ?_
   ·intro x Fs hx ho hg' K hK
    have h8:x.heap[d]? = some (.cells (wN D) 171 (0,0)):=(ho _ rfl).trans HQ.out.rd
    have e1:x.cell? ⟨d,k,none⟩=some (.int .u64 ((D.getD k 0:Nat):Int)):=(cell_of_row _ _ _ _ _ _ h8).trans (wN_get D k (by rw [HD.out]; exact hlt))
    have e2:x.frozen? ⟨d,k,none⟩=false:=frozen_of_row _ _ _ _ _ h8
    have H8:=Lib.hid h8
    clear h8 hx ho hg'
    go_wp2_with fail
    have he:x.setCell ⟨d,k,none⟩ (.int .u64 ((ad m1 m2 u:Nat):Int))=x.setRow (d) (wN (D.set k (ad m1 m2 u))):=by rw [setCell_eq_setRow x (d) k _ _ _ _ H8.out,wN_set]
    rw [he]
    have hgr:=grownBy_setRowE x (d) (wN (D.set k (ad m1 m2 u)))
    have h8':=setRow_heap x (d) _ (wN (D.set k (ad m1 m2 u))) _ _ H8.out
    exact hK Rc.dflt _ ⟨hgr.os,hgr.tape,hgr.output,hgr.size,fun j hj hn=>hgr.block j hj fun e=>hn (.inr (by cases e; rfl))⟩ (fun y hy=>(hy.block _ ((Array.getElem?_eq_some_iff.1 h8').1) (.inr (.inl (.inr rfl)))).trans h8')
   intro K hK; go_simp; refine hK _ ?_; clear hK K
   refine Re.done fun x2 Fs2 hx hg' => ?_
   have hr:AdAt w a b (D.set k (ad m1 m2 u)) g d x2:=by
    have hx':=Re.undrew hx
    refine ⟨(hx'.block _ HGA.out).trans HQ.out.ra,(hx'.block _ HGB.out).trans HQ.out.rb,(hx'.block _ ?_).trans HQ.out.rz,hg'.1,HGT.out,HQ.out.be.trans ⟨hx'.os,hx'.tape,hx'.output,hx'.size,fun j hj=>hx'.block j ⟨?_,?_⟩⟩⟩
    · exact ⟨by have:=HGL.out; have:=HGT.out; omega,by have:=HGT.out; omega⟩
    · exact Nat.lt_of_lt_of_le hj HQ.out.be.size
    · have:=HG.out; have:=HGT.out; omega
   have HR2:=Lib.hid hr
   clear hx hg' hr
   go_wp2_with fail
   refine NoPanic.normal ?_
   go_wp2_with fail
   refine ⟨⟨k+1,by omega,by go_num,by rw [HN.out],?_⟩,by simp [intOf]; omega⟩
   rw [HN.out]
   exact HR2
  ·obtain rfl:k=4:=by omega
   have hn4 : ¬ ((4:Nat):Int)<4:=by omega
   obtain ⟨m,hm⟩ : ∃ m,m=a1+b1:=⟨_,rfl⟩
   have hQd:Q=7237005577332262213973186563042994240857116359379907606001950938285454250989:=rfl
   have hm4:m<W4:=by have:=HA1.out; have:=HB1.out; rw [hm]; unfold W4; omega
   have hD:(addK a b 4).1=words m 4:=by
    rw [addK_all a b HA.out.1 HB.out.1,HAE.out,HBE.out,addC_words 4 a1 b1 0 (by rw [W4_pow]; exact Nat.lt_trans HA1.out Q_W4) (by rw [W4_pow]; exact Nat.lt_trans HB1.out Q_W4) (Nat.zero_le _),Nat.add_zero,hm]
   rw [hD] at HQ
   obtain ⟨c,hc⟩ : ∃ c,c=(addK a b 4).2:=⟨_,rfl⟩
   rw [← hc]
   have HR:Hid (wr.heap[d]? = some (.cells (sn m) 171 (0,0))):=Lib.hid HQ.out.rd
   have HOR:=Lib.hid (HO.out.below HQ.out.be)
   have HLE:Hid (Calls Tryz.prog 96 #[.agg (sn m),.agg (sn Q)] wr fun e w'=>e = .returned (.bool (decide (m<Q)))∧Below wr.heap.size wr w'):=Lib.hid (less_sn m Q hm4 Q_W4 wr)
   obtain ⟨qa,hqa⟩ : ∃ qa,qa=sn Q:=⟨_,rfl⟩
   rw [← hqa] at HLE
   have HLD:Hid (∀ x,OT x→(Instr.loadAt 171 (.pointer (some ⟨2,0,none⟩))).run Tryz.prog x = .ok (.agg qa) x):=Lib.hid (fun x hx=>by rw [hqa]; exact hx.load)
   have hmQ:m<2*Q:=by have:=HA1.out; have:=HB1.out; rw [hm]; omega
   have HM:=Lib.hid hm
   have HM4:=Lib.hid hm4
   have HMQ:=Lib.hid hmQ
   have HQA:=Lib.hid hqa
   clear hc hD hQd hm hm4 hmQ hqa
   go_wp2_with (first | (refine l_loadP rfl _ _ rfl (.pointer (some ⟨d,0,none⟩)) rfl (.agg (sn m)) (load_sn HR.out) ?_) | (refine l_loadP rfl _ _ rfl (.pointer (some ⟨2,0,none⟩)) rfl (.agg qa) (HLD.out wr HOR.out) ?_))
   refine HLE.out.mono ?_
   rintro e w2 ⟨rfl,hb⟩
   have HB2:=Lib.hid (HQ.out.be.trans (hb.mono HQ.out.be.size))
   have HR2:=Lib.hid (Rp.row_le hb HR.out)
   have HO2:=Lib.hid (Rp.row_le hb HQ.out.rz)
   have HOR2:=Lib.hid (HOR.out.below hb)
   clear hb
   by_cases hlt:m<Q
   ·have hd:decide (m<Q)=true:=decide_eq_true hlt
    have HE:Hid ((a1+b1)%Q=m):=Lib.hid (by rw [← HM.out]; exact Nat.mod_eq_of_lt hlt)
    rw [hd]
    have HSZ:Hid ((sn 0).size=(sn m).size):=Lib.hid (by simp only [sn_size])
    clear hd hlt
    go_wp2_with (first | (refine l_loadP rfl _ _ rfl (.pointer (some ⟨d,0,none⟩)) rfl (.agg (sn m)) (load_sn HR2.out) ?_) | (refine Rg.store_row rfl 171 _ _ rfl (g+1+1) rfl 171 (sn 0) (sn m) rfl HO2.out (infoSn m) HSZ.out (sn_one _) ?_))
    refine bodyPost_ret (v := .agg (sn m)) (results_cell_row (P:=Tryz.prog) rfl _ _ (g+1+1) 171 (sn m) (0,0) _ rfl (setRow_heap _ _ _ _ 171 _ HO2.out) Tryz.underlying171 rfl (infoSn m)) rfl ⟨by rw [HFE.out,HE.out],Rg.below_setRow HB2.out (by have:=HG.out; omega) _⟩
   ·have hd:decide (m<Q)=false:=decide_eq_false hlt
    obtain ⟨r,hr⟩ : ∃ r,r=m-Q:=⟨_,rfl⟩
    have HE:Hid ((a1+b1)%Q=r):=Lib.hid (by have hmQ:=HMQ.out; rw [← HM.out,Nat.mod_eq_sub_mod (by omega),Nat.mod_eq_of_lt (by omega),hr])
    rw [hd]
    have HSU:Hid (Calls Tryz.prog 97 #[.agg (sn m),.agg qa] w2 fun e w'=>e = .returned (.tuple #[.agg (sn r),.int .u64 0])∧Below w2.heap.size w2 w'):=Lib.hid (by
     rw [HQA.out]
     have h:=sub_sn m Q HM4.out Q_W4 w2
     rw [if_neg hlt,show m+W4-Q=r+18446744073709551616^4 by rw [W4_pow]; omega] at h
     unfold sn at h ⊢
     rw [words_add] at h
     exact h)
    have HSR:Hid ((sn 0).size=(sn r).size):=Lib.hid (by simp only [sn_size])
    clear hd hlt hr
    go_wp2_with (first | (refine l_loadP rfl _ _ rfl (.pointer (some ⟨d,0,none⟩)) rfl (.agg (sn m)) (load_sn HR2.out) ?_) | (refine l_loadP rfl _ _ rfl (.pointer (some ⟨2,0,none⟩)) rfl (.agg qa) (HLD.out w2 HOR2.out) ?_))
    refine HSU.out.mono ?_
    rintro e w3 ⟨rfl,hb⟩
    obtain ⟨w4,hw4⟩ : ∃ w4,w4=w3.alloc (.cells (sn r) 171):=⟨_,rfl⟩
    have hb4:Below w3.heap.size w3 w4:=by rw [hw4]; exact (Below.refl _ _).alloc (Nat.le_refl _) _
    have hb24:=hb.trans (hb4.mono hb.size)
    have HR4:Hid (w4.heap[w3.heap.size]? = some (.cells (sn r) 171 (0,0))):=Lib.hid (by rw [hw4]; exact heap_alloc_new w3 _)
    have HB4:=Lib.hid (HB2.out.trans (hb24.mono HB2.out.size))
    have HO4:=Lib.hid (Rp.row_le hb24 HO2.out)
    have HW4:=Lib.hid hw4
    clear hb hb4 hb24 hw4
    go_upto_region 12 with (refine Rg.store_row_new rfl 171 _ _ rfl w3.heap.size rfl rfl 171 _ (sn r) rfl (infoSn r) HSR.out (sn_one _) ?_)
    rw [← HW4.out]
    go_wp2_with (first | (refine l_loadP rfl _ _ rfl (.pointer (some ⟨w3.heap.size,0,none⟩)) rfl (.agg (sn r)) (load_sn HR4.out) ?_) | (refine Rg.store_row rfl 171 _ _ rfl (g+1+1) rfl 171 (sn 0) (sn r) rfl HO4.out (infoSn r) HSR.out (sn_one _) ?_))
    refine bodyPost_ret (v := .agg (sn r)) (results_cell_row (P:=Tryz.prog) rfl _ _ (g+1+1) 171 (sn r) (0,0) _ rfl (setRow_heap _ _ _ _ 171 _ HO4.out) Tryz.underlying171 rfl (infoSn r)) rfl ⟨by rw [HFE.out,HE.out],Rg.below_setRow HB4.out (by have:=HG.out; omega) _⟩
end Sca
end Go.Proofs.YtfodadedkilgdaaGreatDoor
namespace Go.Proofs.YtfodadedkilgdaaGreatDoor
set_option linter.unusedVariables false
set_option linter.unusedSimpArgs false
open Go.RowKit Bits Mem Sha
namespace Sca
open Fld hiding SubAt SubAt.start sub_any infoE
def clampB (l:List UInt8):List UInt8:=(l.set 0 (bt l 0 &&& 248)).set 31 (bt l 31 &&& 63 ||| 64)
theorem clampB_length (l:List UInt8):(clampB l).length=l.length:=by unfold clampB; rw [List.length_set,List.length_set]
theorem low3 : ∀ x:Fin 256,bits .andNot .u8 (x.val:Int) 7=((x.val &&& 248:Nat):Int):=by decide +kernel
theorem low6 : ∀ x:Fin 256,bits .and .u8 (x.val:Int) 63=((x.val &&& 63:Nat):Int):=by decide +kernel
theorem high6 : ∀ x:Fin 256,bits .or .u8 (x.val:Int) 64=((x.val ||| 64:Nat):Int):=by decide +kernel
theorem bysA_setE (l:List UInt8) (i:Nat) (x:UInt8):(bysA l).setIfInBounds i (.int .u8 (x.toNat:Int))=bysA (l.set i x):=by
 apply Array.ext'
 simp [bysA,bys,List.map_set]
set_option maxRecDepth 100000 in
set_option maxHeartbeats 1000000 in
theorem clamp_any (l:List UInt8) (hl:l.length=32) (w:World):Calls Tryz.prog 85 #[.agg (bysA l)] w fun e w'=>e = .returned (.agg (bysA (clampB l)))∧Below w.heap.size w w':=by
 obtain ⟨w1,hw1⟩ : ∃ w1,w1=(w.alloc (.cells (bysA l) 22)).alloc (.cells (bysA (List.replicate 32 0)) 22):=⟨_,rfl⟩
 have hb1:Below w.heap.size w w1:=by rw [hw1]; exact ((Below.refl _ _).alloc (Nat.le_refl _) _).alloc (by simp) _
 have hr0:w1.heap[w.heap.size]? = some (.cells (bysA l) 22 (0,0)):=by rw [hw1]; exact (Rg.heap_alloc_past _ _ _ (by simp)).trans (Rg.heap_alloc_at w _ _ rfl)
 have hr1:w1.heap[w.heap.size+1]? = some (.cells (bysA (List.replicate 32 0)) 22 (0,0)):=by rw [hw1]; exact Rg.heap_alloc_at _ _ _ (by simp)
 have hc0:w1.cell? ⟨w.heap.size,0,none⟩=some (.int .u8 ((bt l 0).toNat:Int)):=(cell_of_row _ _ _ _ _ _ hr0).trans (by unfold bysA; rw [List.getElem?_toArray]; exact bys_get l 0 (by omega))
 have hf0:w1.frozen? ⟨w.heap.size,0,none⟩=false:=frozen_of_row _ _ _ _ _ hr0
 have hc1:w1.cell? ⟨w.heap.size,31,none⟩=some (.int .u8 ((bt l 31).toNat:Int)):=(cell_of_row _ _ _ _ _ _ hr0).trans (by unfold bysA; rw [List.getElem?_toArray]; exact bys_get l 31 (by omega))
 have hf1:w1.frozen? ⟨w.heap.size,31,none⟩=false:=frozen_of_row _ _ _ _ _ hr0
 have q1:bits .andNot .u8 ((bt l 0).toNat:Int) 7=((bt l 0 &&& 248).toNat:Int):=(low3 ⟨(bt l 0).toNat,(bt l 0).toNat_lt⟩).trans (by rw [UInt8.toNat_and]; rfl)
 have q2:bits .and .u8 ((bt l 31).toNat:Int) 63=((bt l 31 &&& 63).toNat:Int):=(low6 ⟨(bt l 31).toNat,(bt l 31).toNat_lt⟩).trans (by rw [UInt8.toNat_and]; rfl)
 have q3:bits .or .u8 ((bt l 31 &&& 63).toNat:Int) 64=((bt l 31 &&& 63 ||| 64).toNat:Int):=(high6 ⟨(bt l 31 &&& 63).toNat,(bt l 31 &&& 63).toNat_lt⟩).trans (by rw [UInt8.toNat_or]; rfl)
 obtain ⟨b0,hb0⟩ : ∃ b0,b0=bt l 0 &&& 248:=⟨_,rfl⟩
 obtain ⟨b2,hb2'⟩ : ∃ b2,b2=bt l 31 &&& 63:=⟨_,rfl⟩
 obtain ⟨b1,hb1'⟩ : ∃ b1,b1=bt l 31 &&& 63 ||| 64:=⟨_,rfl⟩
 rw [← hb0] at q1
 rw [← hb1',← hb2'] at q3
 rw [← hb2'] at q2
 obtain ⟨g,hg⟩ : ∃ g,g=w.heap.size:=⟨_,rfl⟩
 have HX:Hid ((w1.setCell ⟨g,0,none⟩ (.int .u8 (b0.toNat:Int))).setCell ⟨g,31,none⟩ (.int .u8 (b1.toNat:Int))=(w1.setRow g (bysA (l.set 0 b0))).setRow g (bysA (clampB l))):=Lib.hid (by
  rw [hg,setCell_eq_setRow w1 _ 0 _ _ _ _ hr0,bysA_setE,setCell_eq_setRow _ _ 31 _ _ _ _ (setRow_heap _ _ _ _ _ _ hr0),bysA_setE]
  unfold clampB
  rw [hb0,hb1'])
 have HG:=Lib.hid hg
 rw [← hg] at hc0 hc1 hf0 hf1 hr0 hr1
 have HCL:Hid ((clampB l).length=32):=Lib.hid (by rw [clampB_length,hl])
 have HW1:=Lib.hid hw1
 have HB1:=Lib.hid hb1
 have HR0:=Lib.hid hr0
 have HR1:=Lib.hid hr1
 have HL:=Lib.hid hl
 clear hw1 hb1 hr0 hr1 hl hb0 hb1' hb2' hg
 go_enter Tryz.func85,Tryz.ntmps85
 go_upto_region 1 with fail
 rw [show (#[.int .u8 0,.int .u8 0,.int .u8 0,.int .u8 0,.int .u8 0,.int .u8 0,.int .u8 0,.int .u8 0,.int .u8 0,.int .u8 0,.int .u8 0,.int .u8 0,.int .u8 0,.int .u8 0,.int .u8 0,.int .u8 0,.int .u8 0,.int .u8 0,.int .u8 0,.int .u8 0,.int .u8 0,.int .u8 0,.int .u8 0,.int .u8 0,.int .u8 0,.int .u8 0,.int .u8 0,.int .u8 0,.int .u8 0,.int .u8 0,.int .u8 0,.int .u8 0]:Array Value)=bysA (List.replicate 32 0) from rfl,← HW1.out]
 rw [← HG.out]
 go_upto_region 3 with fail
 rw [HX.out]
 have hb2:Below w.heap.size w ((w1.setRow g (bysA (l.set 0 b0))).setRow g (bysA (clampB l))):=Rg.below_setRow (Rg.below_setRow HB1.out (by have:=HG.out; omega) _) (by have:=HG.out; omega) _
 have hr2:((w1.setRow g (bysA (l.set 0 b0))).setRow g (bysA (clampB l))).heap[g]? = some (.cells (bysA (clampB l)) 22 (0,0)):=setRow_heap _ _ _ _ _ _ (setRow_heap _ _ _ _ _ _ HR0.out)
 have hr3:((w1.setRow g (bysA (l.set 0 b0))).setRow g (bysA (clampB l))).heap[g+1]? = some (.cells (bysA (List.replicate 32 0)) 22 (0,0)):=(setRow_otherE _ _ (by omega)).trans ((setRow_otherE _ _ (by omega)).trans HR1.out)
 obtain ⟨c,hc⟩ : ∃ c,c=clampB l:=⟨_,rfl⟩
 obtain ⟨w2,hw2⟩ : ∃ w2,w2=(w1.setRow g (bysA (l.set 0 b0))).setRow g (bysA (clampB l)):=⟨_,rfl⟩
 rw [← hw2,← hc] at hr2
 rw [← hw2] at hb2 hr3 ⊢
 have HB2:=Lib.hid hb2
 have HR2:=Lib.hid hr2
 have HR3:=Lib.hid hr3
 have HC:=Lib.hid hc
 have HI:=Lib.hid (info32E c (by rw [HC.out]; exact HCL.out))
 have HZ:Hid ((bysA (List.replicate 32 0)).size=(bysA c).size):=Lib.hid (by rw [bysA_size,bysA_size,HC.out,HCL.out]; rfl)
 have HLD:=Lib.hid (load_b32 HR2.out (by rw [HC.out]; exact HCL.out))
 clear hc hw2 hb2 hr2 hr3 HX q1 q2 q3 hc0 hc1 hf0 hf1
 go_wp2_with (first | refine l_loadP rfl 22 _ rfl (.pointer (some ⟨g,0,none⟩)) rfl (.agg (bysA c)) HLD.out ?_ | refine Rg.store_row rfl 22 _ _ rfl (g+1) rfl 22 (bysA (List.replicate 32 0)) (bysA c) rfl HR3.out HI.out HZ.out (bysA_one _) ?_)
 refine bodyPost_ret (v := .agg (bysA c)) (results_cell_row (P:=Tryz.prog) rfl _ _ (g+1) 22 (bysA c) (0,0) _ rfl (setRow_heap _ _ _ _ 22 _ HR3.out) Tryz.underlying22 rfl HI.out) rfl ⟨by rw [HC.out],Rg.below_setRow HB2.out (by have:=HG.out; omega) _⟩
end Sca
end Go.Proofs.YtfodadedkilgdaaGreatDoor

/- A part of the proof. Plain; no condition. -/
import Derived.Test.YtfodadedkilgdaaGreatDoorP26
import Derived.Test.YtfodadedkilgdaaGreatDoorP4
import Derived.Test.YtfodadedkilgdaaGreatDoorP6
import Derived.Test.YtfodadedkilgdaaGreatDoorP25
import Derived.Test.YtfodadedkilgdaaGreatDoorP2
import Derived.Test.YtfodadedkilgdaaGreatDoorP22
import Derived.Test.YtfodadedkilgdaaGreatDoorP23
namespace Go.Proofs.YtfodadedkilgdaaGreatDoor
set_option linter.unusedVariables false
set_option linter.unusedSimpArgs false
open Go.RowKit Bits Mem Sha
namespace Fld
def mulK (l:List Nat):Nat→List Nat×Nat
 | 0=>([0,0,0,0],0)
 | k+1=>((mulK l k).1.set k ((38*l.getD (4+k) 0+l.getD k 0+(mulK l k).2)%WB),(38*l.getD (4+k) 0+l.getD k 0+(mulK l k).2) / WB)
theorem mulK_length (l:List Nat) : ∀ k,(mulK l k).1.length=4
 | 0=>rfl
 | k+1=>by unfold mulK; rw [List.length_set]; exact mulK_length l k
theorem mulK_le {l:List Nat} (h : ∀ y∈l,y<WB) : ∀ k,(mulK l k).2≤38
 | 0=>Nat.zero_le _
 | k+1=>by
   have h1:=at_lt h (4+k)
   have h2:=at_lt h k
   have h3:=mulK_le h k
   show (38*l.getD (4+k) 0+l.getD k 0+(mulK l k).2) / WB≤38
   unfold WB at *
   omega
theorem mulK_all (l:List Nat) (h:l.length=8):mulK l 4=rowC 38 (l.drop 4) (l.take 4) 0:=by
 match l,h with
 | [_,_,_,_,_,_,_,_],_=>rfl
theorem words_drop (n:Nat):(words n 8).drop 4=words (n / W4) 4:=by
 simp only [words,List.drop_succ_cons,List.drop_zero,Nat.div_div_eq_div_mul]
 rfl
theorem words_take (n:Nat):(words n 8).take 4=words n 4:=by
 simp only [words,List.take_succ_cons,List.take_zero]
theorem mulK_words (n:Nat) (h:n<W4*W4):mulK (words n 8) 4=(words (38*(n / W4)+n%W4) 4,(38*(n / W4)+n%W4) / W4):=by
 rw [mulK_all _ (words_length 8 n),words_drop,words_take,words_mod n]
 have h1:n / W4<W4:=Nat.div_lt_of_lt_mul h
 have h2:n%W4<W4:=Nat.mod_lt _ (by decide)
 have:=rowC_words 38 4 (n / W4) (n%W4) 0 (by rw [W4_pow]; exact h1) (by rw [W4_pow]; exact h2)
 rw [Nat.add_zero,W4_pow] at this
 exact this
theorem moreN_lt2 {m n:Nat} (hm:m<W4) (hn:n≤1444):moreN m n<W4:=by unfold moreN; unfold W4 at *; split <;> omega
structure MuAt (w:World) (L D:List Nat) (g h:Nat) (wr:World):Prop where
 ro:wr.heap[g+1+1]? = some (.cells (wN [0,0,0,0]) 173 (0,0))
 rl:wr.heap[h]? = some (.cells (wN L) 223 (0,0))
 rd:wr.heap[h+1]? = some (.cells (wN D) 173 (0,0))
 lt:g+1+1<h
 be:Below w.heap.size w wr
theorem MuAt.next {w wr:World} {L D:List Nat} {g h:Nat} (hh:MuAt w L D g h wr) (hg:g=w.heap.size) (D':List Nat):MuAt w L D' g h (wr.setRow (h+1) (wN D')) :=
 ⟨(setRow_otherE _ _ (by have:=hh.lt; omega)).trans hh.ro,(setRow_otherE _ _ (by omega)).trans hh.rl,setRow_heap _ _ _ _ _ _ hh.rd,hh.lt,Rg.below_setRow hh.be (by have:=hh.lt; omega) _⟩
set_option maxRecDepth 100000 in
set_option maxHeartbeats 4000000 in
theorem fmul_any (m n:Nat) (hm:m<W4) (hn:n<W4) (w:World) (hF:FT w):Calls Tryz.prog 93 #[.agg (wN (words m 4)),.agg (wN (words n 4))] w fun e w'=>e = .returned (.agg (wN (words (m*n%P) 4)))∧Below w.heap.size w w':=by
 obtain ⟨A,hA⟩ : ∃ A,A=words m 4:=⟨_,rfl⟩
 obtain ⟨B,hB⟩ : ∃ B,B=words n 4:=⟨_,rfl⟩
 obtain ⟨L,hL⟩ : ∃ L,L=words (m*n) 8:=⟨_,rfl⟩
 have hmn:m*n<W4*W4:=Nat.mul_lt_mul'' hm hn
 have hLl:L.length=8:=by rw [hL]; exact words_length 8 _
 have hLB : ∀ y∈L,y<WB:=by rw [hL]; exact words_lt 8 _
 obtain ⟨c4,hc4⟩ : ∃ c,c=(mulK L 4).2:=⟨_,rfl⟩
 obtain ⟨r,hr⟩ : ∃ r,r=(38*(m*n / W4)+m*n%W4)%W4:=⟨_,rfl⟩
 have hr4:r<W4:=by rw [hr]; exact Nat.mod_lt _ (by decide)
 have hc38:c4≤38:=by rw [hc4]; exact mulK_le hLB 4
 obtain ⟨S,hS⟩ : ∃ S,S=(mulK L 4).1:=⟨_,rfl⟩
 have hSw:S=words r 4:=by rw [hS,hL,mulK_words _ hmn,hr]; exact words_mod _
 have hcw:c4=(38*(m*n / W4)+m*n%W4) / W4:=by rw [hc4,hL,mulK_words _ hmn]
 obtain ⟨t,ht⟩ : ∃ t,t=moreN r (38*c4):=⟨_,rfl⟩
 have ht4:t<W4:=by rw [ht]; exact moreN_lt2 hr4 (by omega)
 have htP:t%P=m*n%P:=by
  rw [ht]
  unfold moreN
  rw [more_mod,hr,hcw,fold_mod,Nat.add_comm,fold_mod]
 obtain ⟨T,hT⟩ : ∃ T,T=words t 4:=⟨_,rfl⟩
 obtain ⟨D,hD⟩ : ∃ D,D=words (m*n%P) 4:=⟨_,rfl⟩
 have hDl:D.length=4:=by rw [hD]; exact words_length 4 _
 obtain ⟨w1,hw1⟩ : ∃ w1,w1=((w.alloc (.cells (wN A) 173)).alloc (.cells (wN B) 173)).alloc (.cells (wN [0,0,0,0]) 173):=⟨_,rfl⟩
 have hb1:Below w.heap.size w w1:=by rw [hw1]; exact (((Below.refl _ _).alloc (Nat.le_refl _) _).alloc (by simp) _).alloc (by simp; try omega) _
 have hr0:w1.heap[w.heap.size]? = some (.cells (wN A) 173 (0,0)):=by rw [hw1]; exact (Rg.heap_alloc_past _ _ _ (by simp; try omega)).trans ((Rg.heap_alloc_past _ _ _ (by simp)).trans (Rg.heap_alloc_at w _ _ rfl))
 have hr1:w1.heap[w.heap.size+1]? = some (.cells (wN B) 173 (0,0)):=by rw [hw1]; exact (Rg.heap_alloc_past _ _ _ (by simp)).trans (Rg.heap_alloc_at _ _ _ (by simp))
 have hr2:w1.heap[w.heap.size+1+1]? = some (.cells (wN [0,0,0,0]) 173 (0,0)):=by rw [hw1]; exact Rg.heap_alloc_at _ _ _ (by simp)
 have HIA:=Lib.hid (infoL A (by rw [hA]; exact words_length 4 _))
 have HIB:=Lib.hid (infoL B (by rw [hB]; exact words_length 4 _))
 have HIL:=Lib.hid (infoL8 L hLl)
 have HSL:Hid (8=(wN L).size):=Lib.hid (by rw [wN_size,hLl])
 have HID:=Lib.hid (infoL D hDl)
 have HSD:Hid ((wN [0,0,0,0]).size=(wN D).size):=Lib.hid (by rw [wN_size,wN_size,hDl]; rfl)
 have HPR:Hid (Calls Tryz.prog 142 #[.agg (wN A),.agg (wN B)] w1 fun e w'=>e = .returned (.agg (wN L))∧Below w1.heap.size w1 w'):=Lib.hid (by
  have:=product_any A B w1 (by rw [hA]; exact W4s.words m) (by rw [hB]; exact W4s.words n)
  rw [hA,hB,val_words 4 m (by rw [W4_pow]; exact hm),val_words 4 n (by rw [W4_pow]; exact hn),← hL] at this
  rw [hA,hB]
  exact this)
 have HMO:Hid (∀ x:World,Calls Tryz.prog 143 #[.agg (wN S),.int .u64 (38*(c4:Int))] x fun e w'=>e = .returned (.agg (wN T))∧Below x.heap.size x w'):=Lib.hid (fun x=>by
  have:=more_any r (38*c4) hr4 (by omega) x
  rw [← hSw,← ht,← hT,show (((38*c4:Nat)):Int)=38*(c4:Int) by omega] at this
  exact this)
 have HRE:Hid (∀ x:World,FT x→Calls Tryz.prog 141 #[.agg (wN T)] x fun e w'=>e = .returned (.agg (wN D))∧Below x.heap.size x w'):=Lib.hid (fun x hx=>by
  have:=restN_any t ht4 x hx
  rwa [htP,← hT,← hD] at this)
 have HF:=Lib.hid hF
 have HR0:=Lib.hid hr0
 have HR1:=Lib.hid hr1
 have HR2:=Lib.hid hr2
 have HB1:=Lib.hid hb1
 have HW1:=Lib.hid hw1
 have HLB:=Lib.hid hLB
 have HLl:=Lib.hid hLl
 have HC4:=Lib.hid hc4
 have HS:=Lib.hid hS
 rw [← hA,← hB,← hD]
 have hlt1:w.heap.size+1+1<w1.heap.size:=lt_of_heap hr2
 have HLT1:=Lib.hid hlt1
 clear hA hB hL hmn hLl hLB hc4 hr hr4 hS hSw hcw ht ht4 htP hT hD hDl hb1 hr0 hr1 hr2 hw1 hF hlt1
 go_enter Tryz.func93,Tryz.ntmps93
 go_upto_region 1 with fail
 rw [← zN,← HW1.out]
 go_wp2_with (first | (refine wpList_load_row rfl 173 _ rfl w.heap.size rfl 173 (wN A) (0,0) _ HR0.out Tryz.underlying173 rfl HIA.out ?_) | (refine wpList_load_row rfl 173 _ rfl (w.heap.size+1) rfl 173 (wN B) (0,0) _ HR1.out Tryz.underlying173 rfl HIB.out ?_))
 refine HPR.out.mono ?_
 rintro e w2 ⟨rfl,hb2⟩
 obtain ⟨w3,hw3⟩ : ∃ w3,w3=w2.alloc (.cells (wN L) 223):=⟨_,rfl⟩
 have hb3:Below w2.heap.size w2 w3:=by rw [hw3]; exact (Below.refl _ _).alloc (Nat.le_refl _) _
 have hr3:w3.heap[w2.heap.size]? = some (.cells (wN L) 223 (0,0)):=by rw [hw3]; exact heap_alloc_new w2 _
 have hs3:w3.heap.size=w2.heap.size+1:=by rw [hw3]; simp
 obtain ⟨w4,hw4⟩ : ∃ w4,w4=w3.alloc (.cells (wN [0,0,0,0]) 173):=⟨_,rfl⟩
 have hST:MuAt w L [0,0,0,0] w.heap.size w2.heap.size w4:=by
  have hb4:Below w3.heap.size w3 w4:=by rw [hw4]; exact (Below.refl _ _).alloc (Nat.le_refl _) _
  have hb14:=(hb2.trans (hb3.mono hb2.size)).trans (hb4.mono (hb2.trans (hb3.mono hb2.size)).size)
  refine ⟨Rp.row_le hb14 HR2.out,(hb4.block _ (by omega)).trans hr3,?_,Nat.lt_of_lt_of_le HLT1.out hb2.size,HB1.out.trans (hb14.mono HB1.out.size)⟩
  rw [hw4]
  exact Rg.heap_alloc_at _ _ _ hs3.symm
 have HST:=Lib.hid hST
 have HW3:=Lib.hid hw3
 have HW4:=Lib.hid hw4
 clear hb2 hb3 hr3 hw3 hw4 hST HPR
 go_upto_region 2 with (refine Rg.store_row_new rfl 223 _ _ rfl w2.heap.size rfl rfl 223 _ (wN L) rfl HIL.out HSL.out (wN_one _) ?_)
 rw [← HW3.out]
 go_upto_region 3 with fail
 rw [← zN,← HW4.out]
 obtain ⟨h,hh⟩ : ∃ h,h=w2.heap.size:=⟨_,rfl⟩
 rw [← hh] at HST ⊢
 obtain ⟨g,hg⟩ : ∃ g,g=w.heap.size:=⟨_,rfl⟩
 rw [← hg] at HST ⊢
 have HG:=Lib.hid hg
 clear hg hh HW3 HW4 hs3
 go_wp2_with fail
 go_loopw [7,16] (fun c i wr => ∃ k:Nat,k≤4∧i = .int .i64 (k:Int)∧c = .int .u64 (((mulK L k).2:Nat):Int)∧Hid (MuAt w L (mulK L k).1 g h wr)) (fun _ i _=>4-(intOf i).toNat)
 case atStart=>exact ⟨0,by omega,rfl,rfl,HST⟩
 case round =>
  clear HST
  obtain ⟨k,hk,rfl,rfl,HQ⟩:=hrel
  by_cases hlk:k<4
  ·have q2:(k:Int)<4:=by omega
   obtain ⟨D',hD⟩ : ∃ D',D'=(mulK L k).1:=⟨_,rfl⟩
   obtain ⟨c,hc⟩ : ∃ c,c=(mulK L k).2:=⟨_,rfl⟩
   obtain ⟨j,hj⟩ : ∃ j,j=4+k:=⟨_,rfl⟩
   obtain ⟨y,hy⟩ : ∃ y,y=L.getD j 0:=⟨_,rfl⟩
   obtain ⟨z,hz⟩ : ∃ z,z=L.getD k 0:=⟨_,rfl⟩
   have hDl:D'.length=4:=by rw [hD]; exact mulK_length _ _
   have hyl:y<18446744073709551616:=by rw [hy]; exact at_lt HLB.out j
   have hzl:z<18446744073709551616:=by rw [hz]; exact at_lt HLB.out k
   have hcl:c≤38:=by rw [hc]; exact mulK_le HLB.out k
   have hLl:=HLl.out
   rw [← hD] at HQ
   rw [← hc]
   have HM0:=mul64_any y 38 hyl (by omega)
   have hst:mulK L (k+1)=(D'.set k ((38*y+z+c)%WB),(38*y+z+c) / WB):=by
    unfold mulK
    rw [← hD,← hc,← hj,← hy,← hz]
   obtain ⟨p,hp⟩ : ∃ p,p=y*38:=⟨_,rfl⟩
   rw [Nat.mul_comm 38 y,← hp] at hst
   have hpl:p / 18446744073709551616≤38:=by omega
   rw [← hp] at HM0
   obtain ⟨h0,hh0⟩ : ∃ h,h=p / 18446744073709551616:=⟨_,rfl⟩
   obtain ⟨l0,hl0⟩ : ∃ l,l=p%18446744073709551616:=⟨_,rfl⟩
   rw [← hh0,← hl0] at HM0
   obtain ⟨s1,hs1⟩ : ∃ s,s=(l0+z)%18446744073709551616:=⟨_,rfl⟩
   obtain ⟨o1,ho1⟩ : ∃ o,o=(l0+z) / 18446744073709551616:=⟨_,rfl⟩
   obtain ⟨s2,hs2⟩ : ∃ s,s=(s1+c)%18446744073709551616:=⟨_,rfl⟩
   obtain ⟨o2,ho2⟩ : ∃ o,o=(s1+c) / 18446744073709551616:=⟨_,rfl⟩
   obtain ⟨h1,hh1⟩ : ∃ h,h=h0+o1:=⟨_,rfl⟩
   obtain ⟨h2,hh2⟩ : ∃ h,h=h1+o2:=⟨_,rfl⟩
   have HE1:Hid ((p+z+c)%WB=s2):=Lib.hid (by unfold WB; omega)
   have HE2:Hid ((p+z+c) / WB=h2):=Lib.hid (by unfold WB; omega)
   have hc1 : ∀ w:World,(callFunc 95 #[.int .u64 (l0:Int),.int .u64 (z:Int),.int .u64 0]).run Tryz.prog w = .ok (.value (.tuple #[.int .u64 (s1:Int),.int .u64 (o1:Int)])) w:=fun w=>by
    rw [Ab.add64_run (l0:Int) (z:Int) 0 (by omega) (by omega) (by omega) (by omega) w]
    rw [show ((l0:Int)+z+0)%18446744073709551616=(s1:Int) by omega,show ((l0:Int)+z+0) / 18446744073709551616=(o1:Int) by omega]
   have hc2 : ∀ w:World,(callFunc 95 #[.int .u64 (s1:Int),.int .u64 (c:Int),.int .u64 0]).run Tryz.prog w = .ok (.value (.tuple #[.int .u64 (s2:Int),.int .u64 (o2:Int)])) w:=fun w=>by
    rw [Ab.add64_run (s1:Int) (c:Int) 0 (by omega) (by omega) (by omega) (by omega) w]
    rw [show ((s1:Int)+c+0)%18446744073709551616=(s2:Int) by omega,show ((s1:Int)+c+0) / 18446744073709551616=(o2:Int) by omega]
   have hwj:IntKind.i64.wrap (4+(k:Int))=(j:Int):=by rw [IntKind.wrap_i64]; omega
   have hw1:IntKind.u64.wrap ((h0:Int)+(o1:Int))=(h1:Int):=by rw [IntKind.wrap_u64]; omega
   have hw2:IntKind.u64.wrap ((h1:Int)+(o2:Int))=(h2:Int):=by rw [IntKind.wrap_u64]; omega
   have q3:(j:Int)<8:=by omega
   have q4:(k:Int)<8:=by omega
   have hcy:wr.cell? ⟨h,j,none⟩=some (.int .u64 (y:Int)):=(cell_of_row _ _ _ _ _ _ HQ.out.rl).trans (by rw [hy]; exact wN_get L j (by omega))
   have hcz:wr.cell? ⟨h,k,none⟩=some (.int .u64 (z:Int)):=(cell_of_row _ _ _ _ _ _ HQ.out.rl).trans (by rw [hz]; exact wN_get L k (by omega))
   have hcell:wr.cell? ⟨h+1,k,none⟩=some (.int .u64 ((D'.getD k 0:Nat):Int)):=(cell_of_row _ _ _ _ _ _ HQ.out.rd).trans (wN_get D' k (by omega))
   have hfroz:wr.frozen? ⟨h+1,k,none⟩=false:=frozen_of_row _ _ _ _ _ HQ.out.rd
   obtain ⟨wn,hwn⟩ : ∃ wn,wn=wr.setCell ⟨h+1,k,none⟩ (.int .u64 (s2:Int)):=⟨_,rfl⟩
   have hQ2:MuAt w L (mulK L (k+1)).1 g h wn:=by
    rw [hst,HE1.out,hwn,setCell_eq_setRow wr (h+1) k _ _ _ _ HQ.out.rd,wN_set]
    exact HQ.out.next HG.out _
   have HC2:Hid ((mulK L (k+1)).2=h2):=Lib.hid (by rw [hst,HE2.out])
   have HQ2:=Lib.hid hQ2
   have HWN:=Lib.hid hwn
   have HM:=Lib.hid HM0
   clear hD hc hy hj hz hDl hyl hzl hcl HM0 hst hpl hp hh0 hl0 hs1 ho1 hs2 ho2 hh1 hh2 HQ hQ2 hwn hLl
   go_wp2_with fail
   refine (HM.out wr).mono ?_
   rintro e w' ⟨rfl,rfl⟩
   go_wp2_with fail
   exact ⟨⟨k+1,by omega,by congr 1,by rw [HC2.out],by rw [← HWN.out]; exact HQ2⟩,by simp only [intOf]; omega⟩
  ·obtain rfl:k=4:=by omega
   rw [← HS.out] at HQ
   rw [← HC4.out]
   have HIS:Hid ((Tryz.prog.info? 173).map (·.size)=some (wN S).size):=Lib.hid (infoL S (by rw [HS.out]; exact mulK_length _ _))
   have hn4 : ¬ ((4:Nat):Int)<4:=by omega
   have hc38:c4≤38:=by rw [HC4.out]; exact mulK_le HLB.out 4
   have hwr:IntKind.u64.wrap (38*(c4:Int))=38*(c4:Int):=by rw [IntKind.wrap_u64]; omega
   go_wp2_with (refine wpList_load_row rfl 173 _ rfl (h+1) rfl 173 (wN S) (0,0) _ HQ.out.rd Tryz.underlying173 rfl HIS.out ?_)
   refine (HMO.out wr).mono ?_
   rintro e w5 ⟨rfl,hb5⟩
   have hbe:=HQ.out.be.trans (hb5.mono HQ.out.be.size)
   have HF5:=Lib.hid (HF.out.below hbe)
   have HB5:=Lib.hid hbe
   have HR5:=Lib.hid (Rp.row_le hb5 HQ.out.ro)
   clear hb5 hbe
   go_wp2_with fail
   refine (HRE.out w5 HF5.out).mono ?_
   rintro e w6 ⟨rfl,hb6⟩
   have HB6:=Lib.hid (HB5.out.trans (hb6.mono HB5.out.size))
   have HR6:=Lib.hid (Rp.row_le hb6 HR5.out)
   clear hb6
   go_wp2_with (refine Rg.store_row rfl 173 _ _ rfl (g+1+1) rfl 173 (wN [0,0,0,0]) (wN D) rfl HR6.out HID.out HSD.out (wN_one _) ?_)
   refine bodyPost_ret (v := .agg (wN D)) (results_cell_row (P:=Tryz.prog) rfl _ _ (g+1+1) 173 (wN D) (0,0) _ rfl (setRow_heap _ _ _ _ 173 _ HR6.out) Tryz.underlying173 rfl HID.out) rfl ⟨rfl,Rg.below_setRow HB6.out (by have:=HG.out; omega) _⟩
end Fld
end Go.Proofs.YtfodadedkilgdaaGreatDoor
namespace Go.Proofs.YtfodadedkilgdaaGreatDoor
open Go.RowKit
namespace Rc
section
variable {P:Program} {ops:Array Oper} {Q:Exit→Act→World→Prop} {B:Nat} {w:World} {spec:List Sp} {fin:List Nat} {tail:List Oper} {p:Nat→Par} {j:Nat} {o:Oper} {r:List Oper} {a:Act}
open Mem
theorem undrew {x:World} (h:Below B w.drew x):Below B w x:=⟨h.os,h.tape,h.output,h.size,h.block⟩
theorem r_load (hl:look spec j=none) (hw:Region.wanted o (yielded ops a.tmps)=true) (ty:TypeId) (y:Operand) (ho:o.op = .load ty y) (v:Value)
 (hrun : ∀ x,Below B w x→(Instr.loadAt ty (a.eval y)).run P x = .ok v x)
 (h : ∀ K:Act→Prop,(∀ a,wpSeq P ops Q B w spec fin tail p (j+1) r a→K a)→K (a.put o.dst v)):wpSeq P ops Q B w spec fin tail p j (o::r) a :=
 r_run _ hl hw (fun x hx=>by
  unfold execOp
  simp only [ho,Sem.run_bind,hrun x hx,Result.andThen_ok,Sem.run_pure]) h
end
end Rc
end Go.Proofs.YtfodadedkilgdaaGreatDoor
namespace Go.Proofs.YtfodadedkilgdaaGreatDoor
set_option linter.unusedVariables false
set_option linter.unusedSimpArgs false
open Go.RowKit Bits Mem Sha
namespace Fld
open Ed (FP)
def el (x:FP):Array Value:=wN (words x.val 4)
theorem el_cell (x:FP):(el x).all (·.oneCell')=true:=wN_one _
theorem el_size (x:FP):(el x).size=4:=by unfold el; rw [wN_size,words_length]
theorem lt4 (x:FP):x.val<W4:=Nat.lt_trans x.isLt P_W4
theorem el_inj {x y:FP} (h:words x.val 4=words y.val 4):x=y:=by
 have h1:=congrArg val h
 rw [val_words 4 _ (by rw [W4_pow]; exact lt4 x),val_words 4 _ (by rw [W4_pow]; exact lt4 y)] at h1
 exact Fin.ext h1
theorem infoEl (x:FP):(Tryz.prog.info? 173).map (·.size)=some (el x).size:=infoL _ (words_length 4 _)
theorem load_l {x:World} {b:Nat} {l:List Nat} {t:TypeId} {f:Nat×Nat} (h:x.heap[b]? = some (.cells (wN l) t f)) (hl:l.length=4):(Instr.loadAt 173 (.pointer (some ⟨b,0,none⟩))).run Tryz.prog x = .ok (.agg (wN l)) x:=by
 have:=run_loadAt_mid x b 0 173 (wN l).toList _ (fun j u hu=>by
  rw [Nat.zero_add,cell_of_row x b _ _ _ _ h]
  simpa using hu) Tryz.underlying173 rfl (by
  rw [Array.length_toList,wN_size,hl]; exact infoE)
 simpa using this
theorem load_el {x:World} {b:Nat} {a:FP} {t:TypeId} {f:Nat×Nat} (h:x.heap[b]? = some (.cells (el a) t f)):(Instr.loadAt 173 (.pointer (some ⟨b,0,none⟩))).run Tryz.prog x = .ok (.agg (el a)) x:=load_l h (words_length 4 _)
theorem row_in {B:Nat} {w x:World} {b:Nat} {o:Obj} (hx:Below B w.drew x) (h:w.heap[b]? = some o) (hb:b<B):x.heap[b]? = some o:=((Rc.undrew hx).block b hb).trans h
theorem el_zero:(#[.int .u64 0,.int .u64 0,.int .u64 0,.int .u64 0]:Array Value)=el 0:=rfl
theorem mul_el (x y:FP) (w:World) (hF:FT w):Calls Tryz.prog 93 #[.agg (el x),.agg (el y)] w fun e w'=>e = .returned (.agg (el (x*y)))∧Below w.heap.size w w':=fmul_any x.val y.val (lt4 x) (lt4 y) w hF
theorem add_el (x y:FP) (w:World) (hF:FT w):Calls Tryz.prog 137 #[.agg (el x),.agg (el y)] w fun e w'=>e = .returned (.agg (el (x+y)))∧Below w.heap.size w w':=fadd_any x.val y.val (lt4 x) (lt4 y) w hF
theorem rest_el (x:FP) (w:World) (hF:FT w):Calls Tryz.prog 141 #[.agg (el x)] w fun e w'=>e = .returned (.agg (el x))∧Below w.heap.size w w':=by
 have:=restN_any x.val (lt4 x) w hF
 rw [Nat.mod_eq_of_lt x.isLt] at this
 exact this
theorem rneg_el (x:FP) (w:World) (hF:FT w):Calls Tryz.prog 141 #[.agg (wN (words (P-x.val) 4))] w fun e w'=>e = .returned (.agg (el (-x)))∧Below w.heap.size w w' :=
 restN_any (P-x.val) (Nat.lt_of_le_of_lt (Nat.sub_le _ _) P_W4) w hF
theorem subP_el (x:FP) (w:World):Calls Tryz.prog 181 #[.agg (wN modW),.agg (el x)] w fun e w'=>e = .returned (.tuple #[.agg (wN (words (P-x.val) 4)),.int .u64 0])∧Below w.heap.size w w':=by
 have h:=sub_any modW (words x.val 4) w rfl (words_length 4 _)
 have e:=subC_words 4 P x.val 0 P_lt (by rw [W4_pow]; exact lt4 x) (Nat.zero_le _)
 have hm:words P 4=modW:=by decide +kernel
 have hx:=x.isLt
 rw [hm,if_neg (by omega),Nat.sub_zero,show P+18446744073709551616^4-x.val=P-x.val+18446744073709551616^4 by omega,words_add] at e
 rw [e] at h
 exact h
set_option maxRecDepth 100000 in
set_option maxHeartbeats 2000000 in
theorem neg_el (a:FP) (w:World) (hF:FT w):Calls Tryz.prog 180 #[.agg (el a)] w fun e w'=>e = .returned (.agg (el (-a)))∧Below w.heap.size w w':=by
 obtain ⟨w1,hw1⟩ : ∃ w1,w1=(w.alloc (.cells (el a) 173)).alloc (.cells (el 0) 173):=⟨_,rfl⟩
 have hb1:Below w.heap.size w w1:=by rw [hw1]; exact ((Below.refl _ _).alloc (Nat.le_refl _) _).alloc (by simp) _
 have hr0:w1.heap[w.heap.size]? = some (.cells (el a) 173 (0,0)):=by rw [hw1]; exact (Rg.heap_alloc_past _ _ _ (by simp)).trans (Rg.heap_alloc_at w _ _ rfl)
 have hr1:w1.heap[w.heap.size+1]? = some (.cells (el 0) 173 (0,0)):=by rw [hw1]; exact Rg.heap_alloc_at _ _ _ (by simp)
 have hF1:=hF.below hb1
 obtain ⟨tm,fm,hm1⟩:=hF1
 have hlm:=lt_of_heap hm1
 have hl0:=lt_of_heap hr0
 have hs1:w1.heap.size=w.heap.size+1+1:=by rw [hw1]; simp
 have HF:=Lib.hid (hF.below hb1)
 have HM:=Lib.hid hm1
 have HB1:=Lib.hid hb1
 have HR0:=Lib.hid hr0
 have HR1:=Lib.hid hr1
 have HW1:=Lib.hid hw1
 have HLM:=Lib.hid hlm
 have HL0:=Lib.hid hl0
 clear hb1 hr0 hr1 hw1 hF hm1 hlm hl0
 obtain ⟨D,hD⟩ : ∃ D,D=words (P-a.val) 4:=⟨_,rfl⟩
 have HSU:Hid (∀ x,Calls Tryz.prog 181 #[.agg (wN modW),.agg (el a)] x fun e w'=>e = .returned (.tuple #[.agg (wN D),.int .u64 0])∧Below x.heap.size x w'):=Lib.hid (fun x=>by rw [hD]; exact subP_el a x)
 have HRN:Hid (∀ x,FT x→Calls Tryz.prog 141 #[.agg (wN D)] x fun e w'=>e = .returned (.agg (el (-a)))∧Below x.heap.size x w'):=Lib.hid (fun x hx=>by rw [hD]; exact rneg_el a x hx)
 have hDl:D.length=4:=by rw [hD]; exact words_length 4 _
 have HID:=Lib.hid (infoL D hDl)
 have HSD:Hid ((el 0).size=(wN D).size):=Lib.hid (by rw [el_size,wN_size,hDl])
 have HSE:Hid ((el 0).size=(el (-a)).size):=Lib.hid (by rw [el_size,el_size])
 have HIE:=Lib.hid (infoEl (-a))
 clear hD hDl
 go_enter Tryz.func180,Tryz.ntmps180
 go_upto_region 1 with fail
 rw [el_zero,← HW1.out]
 refine Rc.region (w1.heap.size) 10 [Rc.F 2 (fun _ => .agg (el a)) (fun _ _ _=>True),Rc.F 3 (fun _ => .tuple #[.agg (wN D),.int .u64 0]) (fun _ _ _=>True),Rc.F 7 (fun p => .pointer (some ⟨p.c,0,none⟩)) (fun p F y=>(y.heap[p.c]? = some (.cells (el 0) 173 (0,0))∧w1.heap.size≤p.c)∧F p.c),⟨8,[7],[7],some (fun _ _=>undef),fun p _ F y=>(y.heap[(p 7).c]? = some (.cells (wN D) 173 (0,0))∧w1.heap.size≤(p 7).c)∧F (p 7).c⟩] [8] (by kernel_rfl) (Nat.le_refl _) (by kernel_rfl) ?_; intro p; simp only [List.take,List.drop]
 refine Rc.r_load rfl rfl _ _ rfl (.agg (wN modW)) (fun x hx=>load_l (row_in hx HM.out HLM.out) rfl) ?_; intro K hK; go_simp; refine hK _ ?_; clear hK K
 refine Rc.r_load rfl rfl _ _ rfl (.agg (el a)) (fun x hx=>load_el (row_in hx HR0.out HL0.out)) ?_; intro K hK; go_simp; refine hK _ ?_; clear hK K
 refine Rc.fK rfl rfl rfl rfl ?_ ?_
 ·intro x Fs hx hle hg K hK
  have HC:=Lib.hid (rest_el a x (HF.out.below (Rc.undrew hx)))
  clear hx hg
  go_wp2_with fail
  refine HC.out.mono ?_
  rintro e x' ⟨rfl,hb⟩
  go_wp2_with fail
  exact hK Rc.dflt x' hb (fun _ _ _ _=>trivial)
 intro K hK; go_simp; refine hK _ ?_; clear hK K
 refine Rc.fK rfl rfl rfl rfl ?_ ?_
 ·intro x Fs hx hle hg K hK
  have HC:=Lib.hid (HSU.out x)
  clear hx hg
  go_wp2_with fail
  refine HC.out.mono ?_
  rintro e x' ⟨rfl,hb⟩
  go_wp2_with fail
  exact hK Rc.dflt x' hb (fun _ _ _ _=>trivial)
 intro K hK; go_simp; refine hK _ ?_; clear hK K
 iterate 3 (refine Rc.rK rfl rfl ?_; intro K hK; apply Exists.intro; refine ⟨?_,?_⟩; (focus (intro x hx;  go_simp; (first | (fail) | ((try go_bits); (try go_simp); (try rfl))))); go_simp; refine hK _ ?_; clear hK K)
 refine Rc.fK rfl rfl rfl rfl ?_ ?_
 ·intro x Fs hx hle hg K hK
  go_wp2_with fail
  rw [el_zero]
  exact hK ⟨none,x.heap.size,undef⟩ _ ((Below.refl _ _).alloc (Nat.le_refl _) _) fun F y hF hy=>⟨⟨(hy.block _ (by simp) (.inr (hF _ (Nat.le_refl _) (by simp)))).trans (Rg.heap_alloc_at _ _ _ rfl),hle⟩,hF _ (Nat.le_refl _) (by simp)⟩
 intro K hK; go_simp; refine hK _ ?_; clear hK K
 refine Rc.cK rfl rfl rfl ?_ ?_
 ·intro x Fs hx hle hg K hK
  have HG:Hid (x.heap[(p 7).c]? = some (.cells (el 0) 173 (0,0))∧w1.heap.size≤(p 7).c):=Lib.hid hg.1.1
  have HFS:Hid (Fs 7 (p 7).c):=Lib.hid hg.1.2
  clear hg
  go_wp2_with (refine Rg.store_row rfl 173 _ _ rfl (p 7).c rfl 173 (el 0) (wN D) rfl HG.out.1 HID.out HSD.out (wN_one _) ?_)
  have hu:Rc.used Fs [7] (p 7).c:=⟨7,by simp,HFS.out⟩
  exact hK Rc.dflt _ ⟨rfl,rfl,rfl,by rw [setRow_size]; exact Nat.le_refl _,fun k _ hn=>setRow_otherE _ _ (fun e=>hn (e ▸ hu))⟩ fun y hy=>⟨⟨(hy.block _ (by rw [setRow_size]; exact lt_of_heap HG.out.1) (.inr (.inl hu))).trans (setRow_heap _ _ _ _ _ _ HG.out.1),HG.out.2⟩,.inl hu⟩
 intro K hK; go_simp; refine hK _ ?_; clear hK K
 iterate 1 (refine Rc.rK rfl rfl ?_; intro K hK; apply Exists.intro; refine ⟨?_,?_⟩; (focus (intro x hx;  go_simp; (first | (fail) | ((try go_bits); (try go_simp); (try rfl))))); go_simp; refine hK _ ?_; clear hK K)
 refine Rc.done fun x Fs hx hle hg => ?_
 obtain ⟨g,hgg⟩ : ∃ g,g=(p 7).c:=⟨_,rfl⟩
 have HG:Hid (x.heap[g]? = some (.cells (wN D) 173 (0,0))):=Lib.hid (by rw [hgg]; exact hg.1.1.1)
 have HBX:=Lib.hid (Rc.undrew hx)
 rw [← hgg]
 clear hgg hx hle hg
 go_wp2_with fail
 refine NoPanic.normal ?_
 go_wp2_with (refine wpList_load_row rfl 173 _ rfl g rfl 173 (wN D) (0,0) _ HG.out Tryz.underlying173 rfl HID.out ?_)
 refine (HRN.out x (HF.out.below HBX.out)).mono ?_
 rintro e x' ⟨rfl,hb⟩
 have hb2:=HBX.out.trans (hb.mono HBX.out.size)
 have HR1':=Lib.hid (Rp.row_le hb2 HR1.out)
 have HB2:=Lib.hid (HB1.out.trans (hb2.mono HB1.out.size))
 clear hb hb2
 go_wp2_with (refine Rg.store_row rfl 173 _ _ rfl (w.heap.size+1) rfl 173 (el 0) (el (-a)) rfl HR1'.out HIE.out HSE.out (wN_one _) ?_)
 refine bodyPost_ret (v := .agg (el (-a))) (results_cell_row (P:=Tryz.prog) rfl _ _ (w.heap.size+1) 173 (el (-a)) (0,0) _ rfl (setRow_heap _ _ _ _ 173 _ HR1'.out) Tryz.underlying173 rfl HIE.out) rfl ⟨rfl,Rg.below_setRow HB2.out (by omega) _⟩
end Fld
end Go.Proofs.YtfodadedkilgdaaGreatDoor
namespace Go.Proofs.YtfodadedkilgdaaGreatDoor
set_option linter.unusedVariables false
set_option linter.unusedSimpArgs false
open Go.RowKit Bits Mem Sha
namespace Fld
open Ed (FP)
theorem sub_eq (a b:FP):a + -b=a-b:=by grind
theorem l_loadP {P:Program} {ops:Array Oper} {Q:Exit→Act→World→Prop} {a:Act} {w:World} {o:Oper} {rest:List Oper} (hg:o.guard=none) (ty:TypeId) (y:Operand) (ho:o.op = .load ty y) (p:Value) (hy:a.eval y=p) (v:Value)
 (hrun:(Instr.loadAt ty p).run P w = .ok v w) (h:wpList P ops Q rest (a.put o.dst v) w):wpList P ops Q (o::rest) a w:=l_load hg ty y ho v (by rw [hy]; exact hrun) h
set_option maxRecDepth 100000 in
set_option maxHeartbeats 400000 in
theorem sub0_raw (a:FP) (b:FP) (s7:FP) (s8:FP) (hs7:s7=(-b)) (hs8:s8=(a+s7)) (w:World) (hF:FT w):Calls Tryz.prog 138 #[.agg (el a),.agg (el b)] w fun e w'=>e = .returned (.agg (el s8))∧Below w.heap.size w w':=by
 exact Ab.exact Ab.ti_all (by kernel_rfl) Tryz.func138 ⟨[el a,el b,el s7,el s8],[4,4,4,4],[],[(180,[.ag [1]],.ag [2]),(137,[.ag [0],.ag [2]],.ag [3])],[],[]⟩ [.ag [0],.ag [1]] (.ag [3]) (Ab.atomsOk (by simp only [List.map,el_size]) (by simp only [List.all_cons,List.all_nil,el_cell,Bool.and_self])) trivial
  ⟨fun x hb=>by rw [hs7]; exact neg_el b x (hF.below hb),fun x hb=>by rw [hs8]; exact add_el a s7 x (hF.below hb),trivial⟩ trivial (by kernel_rfl) (by kernel_rfl)
theorem sub0 (a:FP) (b:FP) (w:World) (hF:FT w):Calls Tryz.prog 138 #[.agg (el a),.agg (el b)] w fun e w'=>e = .returned (.agg (el (a+(-b))))∧Below w.heap.size w w' :=
 sub0_raw a b _ _ rfl rfl w hF
theorem sub_el (a b:FP) (w:World) (hF:FT w):Calls Tryz.prog 138 #[.agg (el a),.agg (el b)] w fun e w'=>e = .returned (.agg (el (a-b)))∧Below w.heap.size w w':=by
 rw [← sub_eq]
 exact sub0 a b w hF
end Fld
end Go.Proofs.YtfodadedkilgdaaGreatDoor
namespace Go.Proofs.YtfodadedkilgdaaGreatDoor
set_option linter.unusedVariables false
namespace Ed
section
variable {n:Nat} [NeZero n] {d i:Fin n}
structure Ex (X Y Z T x y:Fin n):Prop where
 hz:Z≠0
 hx:X=x*Z
 hy:Y=y*Z
 ht:T=x*y*Z
theorem ring_add (x1 y1 x2 y2 d k l r x3 y3 Z1 Z2:Fin n) (hl:l=1+d*x1*x2*y1*y2) (hr:r=1-d*x1*x2*y1*y2) (hx:x3*l=x1*y2+x2*y1) (hy:y3*r=y1*y2+x1*x2) (hk:k=Z1*Z2) :
 (y1*Z1+x1*Z1)*(y2*Z2+x2*Z2)-(y1*Z1-x1*Z1)*(y2*Z2-x2*Z2)=2*k*(x3*l) ∧
 (y1*Z1+x1*Z1)*(y2*Z2+x2*Z2)+(y1*Z1-x1*Z1)*(y2*Z2-x2*Z2)=2*k*(y3*r) ∧
 (Z1+Z1)*Z2-x1*y1*Z1*(d+d)*(x2*y2*Z2)=2*k*r ∧
 (Z1+Z1)*Z2+x1*y1*Z1*(d+d)*(x2*y2*Z2)=2*k*l:=by
 subst hk
 rw [hx,hy]
 subst hl hr
 clear hx hy
 refine ⟨?_,?_,?_,?_⟩ <;> grind
theorem ring_out (k x3 y3 l r:Fin n):2*k*(x3*l)*(2*k*r)=x3*(2*k*r*(2*k*l))∧2*k*l*(2*k*(y3*r))=y3*(2*k*r*(2*k*l))∧2*k*(x3*l)*(2*k*(y3*r))=x3*y3*(2*k*r*(2*k*l)):=by
 refine ⟨?_,?_,?_⟩ <;> grind
theorem Ex.add (h:Fl d i) {X1 Y1 Z1 T1 X2 Y2 Z2 T2 x1 y1 x2 y2 x3 y3:Fin n} (o1:On d x1 y1) (o2:On d x2 y2) (hp:Plus d x1 y1 x2 y2 x3 y3) (e1:Ex X1 Y1 Z1 T1 x1 y1) (e2:Ex X2 Y2 Z2 T2 x2 y2) :
 Ex (((Y1+X1)*(Y2+X2)-(Y1-X1)*(Y2-X2))*((Z1+Z1)*Z2-T1*(d+d)*T2))
  (((Z1+Z1)*Z2+T1*(d+d)*T2)*((Y1+X1)*(Y2+X2)+(Y1-X1)*(Y2-X2)))
  (((Z1+Z1)*Z2-T1*(d+d)*T2)*((Z1+Z1)*Z2+T1*(d+d)*T2))
  (((Y1+X1)*(Y2+X2)-(Y1-X1)*(Y2-X2))*((Y1+X1)*(Y2+X2)+(Y1-X1)*(Y2-X2))) x3 y3:=by
 obtain ⟨a1,a2,a3,a4⟩:=e1
 obtain ⟨b1,b2,b3,b4⟩:=e2
 obtain ⟨c1,c2,c3,c4⟩:=ring_add x1 y1 x2 y2 d _ _ _ x3 y3 Z1 Z2 rfl rfl hp.x hp.y rfl
 rw [a2,a3,a4,b2,b3,b4,c1,c2,c3,c4]
 obtain ⟨g1,g2,g3⟩:=ring_out (Z1*Z2) x3 y3 (1+d*x1*x2*y1*y2) (1-d*x1*x2*y1*y2)
 have hk:=h.ne h.two (h.ne a1 b1)
 exact ⟨h.ne (h.ne hk (h.right o1 o2)) (h.ne hk (h.left o1 o2)),g1,g2,g3⟩
theorem ring_twice (x y d l r x3 y3 Z:Fin n) (o:y*y-x*x=1+d*(x*x)*(y*y)) (hl:l=1+d*x*x*y*y) (hr:r=1-d*x*x*y*y) (hx:x3*l=x*y+x*y) (hy:y3*r=y*y+x*x) :
 x*Z*(x*Z)+y*Z*(y*Z)-(x*Z+y*Z)*(x*Z+y*Z) = - (Z*Z)*(x3*l) ∧
 x*Z*(x*Z)+y*Z*(y*Z)=Z*Z*(y3*r) ∧
 x*Z*(x*Z)-y*Z*(y*Z) = - (Z*Z)*l ∧
 Z*Z+Z*Z+(x*Z*(x*Z)-y*Z*(y*Z))=Z*Z*r:=by
 rw [hx,hy]
 clear hx hy
 subst hl hr
 refine ⟨?_,?_,?_,?_⟩ <;> grind
theorem ring_out2 (k x3 y3 l r:Fin n) : - k*(x3*l)*(k*r)=x3*(k*r*(- k*l)) ∧ - k*l*(k*(y3*r))=y3*(k*r*(- k*l)) ∧ - k*(x3*l)*(k*(y3*r))=x3*y3*(k*r*(- k*l)):=by
 refine ⟨?_,?_,?_⟩ <;> grind
theorem neg_ne {k:Fin n} (h:k≠0) : - k≠0:=fun e=>h (by grind)
theorem Ex.twice (h:Fl d i) {X Y Z T x y x3 y3:Fin n} (o:On d x y) (hp:Plus d x y x y x3 y3) (e:Ex X Y Z T x y) :
 Ex ((X*X+Y*Y-(X+Y)*(X+Y))*(Z*Z+Z*Z+(X*X-Y*Y))) ((X*X-Y*Y)*(X*X+Y*Y)) ((Z*Z+Z*Z+(X*X-Y*Y))*(X*X-Y*Y)) ((X*X+Y*Y-(X+Y)*(X+Y))*(X*X+Y*Y)) x3 y3:=by
 obtain ⟨a1,a2,a3,a4⟩:=e
 obtain ⟨c1,c2,c3,c4⟩:=ring_twice x y d _ _ x3 y3 Z o rfl rfl hp.x hp.y
 rw [a2,a3,c1,c4,c3,c2]
 obtain ⟨g1,g2,g3⟩:=ring_out2 (Z*Z) x3 y3 (1+d*x*x*y*y) (1-d*x*x*y*y)
 have hk:=h.ne a1 a1
 exact ⟨h.ne (h.ne hk (h.right o o)) (h.ne (neg_ne hk) (h.left o o)),g1,g2,g3⟩
theorem On.zero:On d (0:Fin n) 1:=by unfold On; grind
theorem ring_den {a l u:Fin n} (h:l*u=1):a*u*l=a:=by
 have:a*u*l=a*(l*u):=by grind
 rw [this,h]; grind
theorem ring_inv {x Z v:Fin n} (h:Z*v=1):x*Z*v=x:=by
 have:x*Z*v=x*(Z*v):=by grind
 rw [this,h]; grind
end
end Ed
end Go.Proofs.YtfodadedkilgdaaGreatDoor
namespace Go.Proofs.YtfodadedkilgdaaGreatDoor
set_option linter.unusedVariables false
set_option linter.unusedSimpArgs false
open Go.RowKit Bits Mem Sha
namespace Re
theorem own_two {w:World} {q1 q2:Nat→Prop} {i1 i2:Nat} {spec:List Sp} (h1 : ∀ k,q1 k→k<w.heap.size) (h2 : ∀ k,q2 k→k<w.heap.size) (hd : ∀ k,q1 k→q2 k→False)
 (h : ∀ s∈spec,s.own=free∨(s.ix=i1∧s.own=q1)∨(s.ix=i2∧s.own=q2)):Own (fun k=>k<w.heap.size ∧ ¬ q1 k ∧ ¬ q2 k) w spec :=
 ⟨fun k hk=>hk.1,fun j s hs k hk=>by
  rcases h s (look_mem hs).1 with h | ⟨_,h⟩ | ⟨_,h⟩
  · rw [h] at hk; exact hk.elim
  · rw [h] at hk; exact ⟨fun hn=>hn.2.1 hk,h1 k hk⟩
  · rw [h] at hk; exact ⟨fun hn=>hn.2.2 hk,h2 k hk⟩,fun a b s t hs ht hab k hk hk'=>by
  have hs':=look_mem hs
  have ht':=look_mem ht
  rcases h s hs'.1 with e | ⟨e,o⟩ | ⟨e,o⟩
  · rw [e] at hk; exact hk
  ·rcases h t ht'.1 with e' | ⟨e',o'⟩ | ⟨e',o'⟩
   · rw [e'] at hk'; exact hk'
   · exact hab (by rw [← hs'.2,← ht'.2,e,e'])
   · rw [o] at hk; rw [o'] at hk'; exact hd k hk hk'
  ·rcases h t ht'.1 with e' | ⟨e',o'⟩ | ⟨e',o'⟩
   · rw [e'] at hk'; exact hk'
   · rw [o] at hk; rw [o'] at hk'; exact hd k hk' hk
   · exact hab (by rw [← hs'.2,← ht'.2,e,e'])⟩
end Re
namespace Fld
open Ed (FP)
def GRow (w:World) (g:Nat) (c:Array Value):Prop := ∃ t f,w.heap[g]? = some (.cells c t f)
theorem GRow.below {w w':World} {g:Nat} {c:Array Value} (h:GRow w g c) (hb:Below w.heap.size w w'):GRow w' g c:=by
 obtain ⟨t,f,hh⟩:=h
 exact ⟨t,f,(hb.block _ (lt_of_heap hh)).trans hh⟩
def dd:FP:=Ed.dC+Ed.dC
def bX:FP:=⟨15112221349535400772501151409588531511454012693041857206046113283949847762202,by decide⟩
def bY:FP:=⟨46316835694926478169428394003475163141307993866256225615783033603165251855960,by decide⟩
structure ET (w:World):Prop where
 ft:FT w
 gd:GRow w (4:Nat) (el dd)
 gc:GRow w (10:Nat) (el Ed.dC)
 gx:GRow w (0:Nat) (el bX)
 gy:GRow w (1:Nat) (el bY)
 gi:GRow w (11:Nat) (el Ed.iC)
theorem ET.below {w w':World} (h:ET w) (hb:Below w.heap.size w w'):ET w':=⟨h.ft.below hb,h.gd.below hb,h.gc.below hb,h.gx.below hb,h.gy.below hb,h.gi.below hb⟩
theorem GRow.lt {w:World} {g:Nat} {c:Array Value} (h:GRow w g c):g<w.heap.size:=by
 obtain ⟨t,f,hh⟩:=h
 exact lt_of_heap hh
theorem GRow.same {w w':World} {g:Nat} {c:Array Value} (h:GRow w g c) (hs:w'.heap[g]? = w.heap[g]?):GRow w' g c:=by
 obtain ⟨t,f,hh⟩:=h
 exact ⟨t,f,hs.trans hh⟩
def pt (x y z t:FP):Array Value:=wN (words x.val 4++(words y.val 4++(words z.val 4++words t.val 4)))
theorem pt_size (x y z t:FP):(pt x y z t).size=16:=by unfold pt; rw [wN_size]; simp [words_length]
theorem infoP16:(Tryz.prog.info? 175).map (·.size)=some 16:=by kernel_rfl
theorem infoPt (x y z t:FP):(Tryz.prog.info? 175).map (·.size)=some (pt x y z t).size:=by rw [pt_size]; exact infoP16
theorem pt_zero:(#[.int .u64 0,.int .u64 0,.int .u64 0,.int .u64 0,.int .u64 0,.int .u64 0,.int .u64 0,.int .u64 0,.int .u64 0,.int .u64 0,.int .u64 0,.int .u64 0,.int .u64 0,.int .u64 0,.int .u64 0,.int .u64 0]:Array Value)=pt 0 0 0 0:=rfl
theorem load_pt {w:World} {b:Nat} {x y z t:FP} {ty:TypeId} {f:Nat×Nat} (h:w.heap[b]? = some (.cells (pt x y z t) ty f)):(Instr.loadAt 175 (.pointer (some ⟨b,0,none⟩))).run Tryz.prog w = .ok (.agg (pt x y z t)) w:=by
 have:=run_loadAt_mid w b 0 175 (pt x y z t).toList _ (fun j u hu=>by
  rw [Nat.zero_add,cell_of_row w b _ _ _ _ h]
  simpa using hu) Tryz.underlying175 rfl (by
  rw [Array.length_toList,pt_size]; exact infoP16)
 simpa using this
end Fld
end Go.Proofs.YtfodadedkilgdaaGreatDoor

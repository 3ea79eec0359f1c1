/- A part of the proof. Plain; no condition. -/
import Derived.Test.YtfodadedkilgdaaGreatDoorP25
import Derived.Shelf.Bits.Mul64
namespace Go.Proofs.YtfodadedkilgdaaGreatDoor
set_option linter.unusedVariables false
set_option linter.unusedSimpArgs false
open Go.RowKit Bits Mem Sha
namespace Fld
def FT (w:World):Prop := ∃ tm fm,w.heap[(7:Nat)]? = some (.cells (wN modW) tm fm)
theorem FT.below {w w':World} (h:FT w) (hb:Below w.heap.size w w'):FT w':=by
 obtain ⟨tm,fm,hh⟩:=h
 exact ⟨tm,fm,(hb.block _ (lt_of_heap hh)).trans hh⟩
theorem P_pos:0<P:=by decide
theorem P_W4:P<W4:=by decide
theorem infoL (l:List Nat) (hl:l.length=4):(Tryz.prog.info? 173).map (·.size)=some (wN l).size:=by rw [wN_size,hl]; exact infoE
theorem restN_any (n:Nat) (hn:n<W4) (w:World) (hF:FT w):Calls Tryz.prog 141 #[.agg (wN (words n 4))] w fun e w'=>e = .returned (.agg (wN (words (n%P) 4)))∧Below w.heap.size w w':=by
 obtain ⟨tm,fm,hm⟩:=hF
 have h:=rest_any (words n 4) w (W4s.words n) hm
 rw [val_words 4 n (by rw [W4_pow]; exact hn)] at h
 exact h
theorem moreN_lt {m n:Nat} (hm:m<W4) (hn:n≤38):moreN m n<W4:=by unfold moreN; unfold W4 at *; split <;> omega
theorem words_mod (n:Nat):words n 4=words (n%W4) 4:=by
 have h : ∀ q r:Nat,words (r+W4*q) 4=words r 4:=by
  intro q r
  induction q with
  | zero=>rw [Nat.mul_zero,Nat.add_zero]
  | succ q ih =>
    rw [Nat.mul_succ,← Nat.add_assoc]
    have:=words_add 4 (r+W4*q)
    rw [W4_pow] at this
    rw [this,ih]
 have:=h (n / W4) (n%W4)
 rwa [Nat.mod_add_div] at this
set_option maxRecDepth 100000 in
set_option maxHeartbeats 2000000 in
theorem small_any (n:Nat) (hn:n<18446744073709551616) (w:World):Calls Tryz.prog 178 #[.int .u64 (n:Int)] w fun e w'=>e = .returned (.agg (wN (words n 4)))∧Below w.heap.size w w':=by
 have HI:=Lib.hid (infoL [n,0,0,0] rfl)
 have HSZ:Hid ((wN [0,0,0,0]).size=(wN [n,0,0,0]).size):=Lib.hid rfl
 obtain ⟨w1,hw1⟩ : ∃ w1,w1=w.alloc (.cells (wN [0,0,0,0]) 173):=⟨_,rfl⟩
 have hb1:Below w.heap.size w w1:=by rw [hw1]; exact (Below.refl _ _).alloc (Nat.le_refl _) _
 have hr1:w1.heap[w.heap.size]? = some (.cells (wN [0,0,0,0]) 173 (0,0)):=by rw [hw1]; exact heap_alloc_new w _
 have HB1:=Lib.hid hb1
 have HR1:=Lib.hid hr1
 have HW1:=Lib.hid hw1
 rw [words_small n hn]
 clear hb1 hr1 hw1
 go_enter Tryz.func178,Tryz.ntmps178
 go_upto_region 1 with fail
 rw [← zN,← HW1.out]
 go_wp2_with (refine Rg.store_row rfl 173 _ _ rfl w.heap.size rfl 173 (wN [0,0,0,0]) (wN [n,0,0,0]) rfl HR1.out HI.out HSZ.out (wN_one _) ?_)
 refine bodyPost_ret (v := .agg (wN [n,0,0,0])) (results_cell_row (P:=Tryz.prog) rfl _ _ w.heap.size 173 (wN [n,0,0,0]) (0,0) _ rfl (setRow_heap _ _ _ _ 173 _ HR1.out) Tryz.underlying173 rfl HI.out) rfl ⟨rfl,Rg.below_setRow HB1.out (Nat.le_refl _) _⟩
set_option maxRecDepth 100000 in
set_option maxHeartbeats 2000000 in
theorem fadd_any (m n:Nat) (hm:m<W4) (hn:n<W4) (w:World) (hF:FT w):Calls Tryz.prog 137 #[.agg (wN (words m 4)),.agg (wN (words n 4))] w fun e w'=>e = .returned (.agg (wN (words ((m+n)%P) 4)))∧Below w.heap.size w w':=by
 obtain ⟨A,hA⟩ : ∃ A,A=words m 4:=⟨_,rfl⟩
 obtain ⟨B,hB⟩ : ∃ B,B=words n 4:=⟨_,rfl⟩
 obtain ⟨S,hS⟩ : ∃ S,S=words (m+n) 4:=⟨_,rfl⟩
 obtain ⟨o,ho⟩ : ∃ o,o=(m+n) / W4:=⟨_,rfl⟩
 have ho1:o≤1:=by rw [ho]; unfold W4 at *; omega
 obtain ⟨r,hr⟩ : ∃ r,r=(m+n)%W4:=⟨_,rfl⟩
 have hr4:r<W4:=by rw [hr]; exact Nat.mod_lt _ (by decide)
 have hS2:S=words r 4:=by rw [hS,hr]; exact words_mod _
 obtain ⟨t,ht⟩ : ∃ t,t=moreN r (38*o):=⟨_,rfl⟩
 have ht4:t<W4:=by rw [ht]; exact moreN_lt hr4 (by omega)
 have htP:t%P=(m+n)%P:=by
  rw [ht]
  unfold moreN
  rw [more_mod,hr,ho]
  exact fold_mod _
 obtain ⟨w1,hw1⟩ : ∃ w1,w1=((w.alloc (.cells (wN A) 173)).alloc (.cells (wN B) 173)).alloc (.cells (wN [0,0,0,0]) 173):=⟨_,rfl⟩
 have hb1:Below w.heap.size w w1:=by rw [hw1]; exact (((Below.refl _ _).alloc (Nat.le_refl _) _).alloc (by simp) _).alloc (by simp; try omega) _
 have hr0:w1.heap[w.heap.size]? = some (.cells (wN A) 173 (0,0)):=by rw [hw1]; exact (Rg.heap_alloc_past _ _ _ (by simp; try omega)).trans ((Rg.heap_alloc_past _ _ _ (by simp)).trans (Rg.heap_alloc_at w _ _ rfl))
 have hr1:w1.heap[w.heap.size+1]? = some (.cells (wN B) 173 (0,0)):=by rw [hw1]; exact (Rg.heap_alloc_past _ _ _ (by simp)).trans (Rg.heap_alloc_at _ _ _ (by simp))
 have hr2:w1.heap[w.heap.size+1+1]? = some (.cells (wN [0,0,0,0]) 173 (0,0)):=by rw [hw1]; exact Rg.heap_alloc_at _ _ _ (by simp)
 have HIA:=Lib.hid (infoL A (by rw [hA]; exact words_length 4 _))
 have HIB:=Lib.hid (infoL B (by rw [hB]; exact words_length 4 _))
 have hSl:S.length=4:=by rw [hS]; exact words_length 4 _
 have HIS:=Lib.hid (infoL S hSl)
 have HSS:Hid (4=(wN S).size):=Lib.hid (by rw [wN_size,hSl])
 have HAD:=Lib.hid (addN_any m n hm hn w1)
 rw [← hA,← hB,← hS,← ho] at HAD
 obtain ⟨T,hT⟩ : ∃ T,T=words t 4:=⟨_,rfl⟩
 obtain ⟨D,hD⟩ : ∃ D,D=words ((m+n)%P) 4:=⟨_,rfl⟩
 have hDl:D.length=4:=by rw [hD]; exact words_length 4 _
 have HID:=Lib.hid (infoL D hDl)
 have HSD:Hid ((wN [0,0,0,0]).size=(wN D).size):=Lib.hid (by rw [wN_size,wN_size,hDl]; rfl)
 have HMO:Hid (∀ x:World,Calls Tryz.prog 143 #[.agg (wN S),.int .u64 (38*(o:Int))] x fun e w'=>e = .returned (.agg (wN T))∧Below x.heap.size x w'):=Lib.hid (fun x=>by
  have:=more_any r (38*o) hr4 (by omega) x
  rw [← hS2,← ht,← hT,show (((38*o:Nat)):Int)=38*(o:Int) by omega] at this
  exact this)
 have HRE:Hid (∀ x:World,FT x→Calls Tryz.prog 141 #[.agg (wN T)] x fun e w'=>e = .returned (.agg (wN D))∧Below x.heap.size x w'):=Lib.hid (fun x hx=>by
  have:=restN_any t ht4 x hx
  rwa [htP,← hT,← hD] at this)
 have HF:=Lib.hid (hF.below hb1)
 have HR0:=Lib.hid hr0
 have HR1:=Lib.hid hr1
 have HR2:=Lib.hid hr2
 have HB1:=Lib.hid hb1
 have HW1:=Lib.hid hw1
 rw [← hA,← hB,← hD]
 clear hA hB hS ho hr hS2 ht htP hT hD hDl hSl hb1 hr0 hr1 hr2 hw1 hF hr4 ht4
 go_enter Tryz.func137,Tryz.ntmps137
 go_upto_region 1 with fail
 rw [← zN,← HW1.out]
 go_wp2_with (first | (refine wpList_load_row rfl 173 _ rfl w.heap.size rfl 173 (wN A) (0,0) _ HR0.out Tryz.underlying173 rfl HIA.out ?_) | (refine wpList_load_row rfl 173 _ rfl (w.heap.size+1) rfl 173 (wN B) (0,0) _ HR1.out Tryz.underlying173 rfl HIB.out ?_))
 refine HAD.out.mono ?_
 rintro e w2 ⟨rfl,hb2⟩
 obtain ⟨w3,hw3⟩ : ∃ w3,w3=w2.alloc (.cells (wN S) 173):=⟨_,rfl⟩
 have hb3:Below w2.heap.size w2 w3:=by rw [hw3]; exact (Below.refl _ _).alloc (Nat.le_refl _) _
 have hr3:w3.heap[w2.heap.size]? = some (.cells (wN S) 173 (0,0)):=by rw [hw3]; exact heap_alloc_new w2 _
 have hb13:=hb2.trans (hb3.mono hb2.size)
 have HR23:=Lib.hid (Rp.row_le hb13 HR2.out)
 have HB3:=Lib.hid (HB1.out.trans (hb13.mono HB1.out.size))
 have HF3:=Lib.hid (HF.out.below hb13)
 have HR3:=Lib.hid hr3
 have HW3:=Lib.hid hw3
 clear hb2 hb3 hr3 hb13 hw3 HAD
 go_upto_region 2 with (refine Rg.store_row_new rfl 173 _ _ rfl w2.heap.size rfl rfl 173 _ (wN S) rfl HIS.out HSS.out (wN_one _) ?_)
 rw [← HW3.out]
 obtain ⟨g,hg⟩ : ∃ g,g=w2.heap.size:=⟨_,rfl⟩
 rw [← hg] at HR3 ⊢
 clear hg HW3
 have hwr:IntKind.u64.wrap (38*(o:Int))=38*(o:Int):=by rw [IntKind.wrap_u64]; omega
 go_wp2_with (refine wpList_load_row rfl 173 _ rfl g rfl 173 (wN S) (0,0) _ HR3.out Tryz.underlying173 rfl HIS.out ?_)
 refine (HMO.out w3).mono ?_
 rintro e w4 ⟨rfl,hb4⟩
 have HF4:=Lib.hid (HF3.out.below hb4)
 have HB4:=Lib.hid (HB3.out.trans (hb4.mono HB3.out.size))
 have HR24:=Lib.hid (Rp.row_le hb4 HR23.out)
 clear hb4
 go_wp2_with fail
 refine (HRE.out w4 HF4.out).mono ?_
 rintro e w5 ⟨rfl,hb5⟩
 have HB5:=Lib.hid (HB4.out.trans (hb5.mono HB4.out.size))
 have HR25:=Lib.hid (Rp.row_le hb5 HR24.out)
 clear hb5
 go_wp2_with (refine Rg.store_row rfl 173 _ _ rfl (w.heap.size+1+1) rfl 173 (wN [0,0,0,0]) (wN D) rfl HR25.out HID.out HSD.out (wN_one _) ?_)
 refine bodyPost_ret (v := .agg (wN D)) (results_cell_row (P:=Tryz.prog) rfl _ _ (w.heap.size+1+1) 173 (wN D) (0,0) _ rfl (setRow_heap _ _ _ _ 173 _ HR25.out) Tryz.underlying173 rfl HID.out) rfl ⟨rfl,Rg.below_setRow HB5.out (by omega) _⟩
end Fld
end Go.Proofs.YtfodadedkilgdaaGreatDoor
namespace Go.Proofs.YtfodadedkilgdaaGreatDoor
set_option linter.unusedVariables false
set_option linter.unusedSimpArgs false
open Go.RowKit Bits Mem Sha
namespace Fld
set_option maxHeartbeats 1000000 in
theorem mul64_any (x y:Nat) (hx:x<18446744073709551616) (hy:y<18446744073709551616) (w:World) :
 Calls Tryz.prog 98 #[.int .u64 x,.int .u64 y] w fun e w'=>e = .returned (.tuple #[.int .u64 ((x*y / 18446744073709551616:Nat):Int),.int .u64 ((x*y%18446744073709551616:Nat):Int)])∧w'=w:=by
 obtain ⟨bd,bt,bw,hhi⟩:=Go.Lib.mul64_hi x y hx hy
 have ba:=Go.Lib.half_mul_le (a:=x / 4294967296) (b:=y / 4294967296) (by omega) (by omega)
 have bb:=Go.Lib.half_mul_le (a:=x / 4294967296) (b:=y%4294967296) (by omega) (by omega)
 have bc:=Go.Lib.half_mul_le (a:=x%4294967296) (b:=y / 4294967296) (by omega) (by omega)
 have ba':x / 4294967296*(y / 4294967296)<18446744073709551616:=by omega
 have bb':x / 4294967296*(y%4294967296)<18446744073709551616:=by omega
 have bc':x%4294967296*(y / 4294967296)<18446744073709551616:=by omega
 have bh1:x / 4294967296*(y / 4294967296)+(x / 4294967296*(y%4294967296)+x%4294967296*(y%4294967296) / 4294967296) / 4294967296<18446744073709551616:=by omega
 have bh:x / 4294967296*(y / 4294967296)+(x / 4294967296*(y%4294967296)+x%4294967296*(y%4294967296) / 4294967296) / 4294967296+((x / 4294967296*(y%4294967296)+x%4294967296*(y%4294967296) / 4294967296)%4294967296+x%4294967296*(y / 4294967296)) / 4294967296<18446744073709551616:=by omega
 go_enter Tryz.func98,Tryz.ntmps98
 go_wp2
 simp only [Mul64.maskN x hx,Mul64.maskN y hy,Mul64.divN,Mul64.mulN,Mul64.addN,Mul64.wrapN _ bd,Mul64.wrapN _ bb',Mul64.wrapN _ bt,Mul64.maskN _ bt,Mul64.wrapN _ bc',Mul64.wrapN _ bw,Mul64.wrapN _ ba',Mul64.wrapN _ bh1,Mul64.wrapN _ bh,Mul64.wrapM (x*y)]
 rw [hhi]
 go_ret2
 exact ⟨rfl,rfl⟩
end Fld
end Go.Proofs.YtfodadedkilgdaaGreatDoor
namespace Go.Proofs.YtfodadedkilgdaaGreatDoor
namespace Fld
abbrev WB:Nat:=18446744073709551616
theorem val_cons (x:Nat) (l:List Nat):val (x::l)=x+WB*val l:=rfl
theorem val_set : ∀ (l:List Nat) (j y:Nat),j<l.length→val (l.set j y)+l.getD j 0*WB^j=val l+y*WB^j
 | [],_,_,h=>by simp at h
 | x::l,0,y,_=>by
   rw [List.set_cons_zero,val_cons,val_cons,List.getD_cons_zero,Nat.pow_zero]
   omega
 | x::l,j+1,y,h=>by
   have ih:=val_set l j y (by simpa using h)
   rw [List.set_cons_succ,val_cons,val_cons,List.getD_cons_succ,Nat.pow_succ]
   have e1:l.getD j 0*(WB^j*WB)=WB*(l.getD j 0*WB^j):=by rw [← Nat.mul_assoc,Nat.mul_comm]
   have e2:y*(WB^j*WB)=WB*(y*WB^j):=by rw [← Nat.mul_assoc,Nat.mul_comm]
   rw [e1,e2]
   have:=congrArg (WB * ·) ih
   simp only [Nat.mul_add] at this
   omega
def innerK (x:Nat) (b:List Nat) (i:Nat) (out:List Nat):Nat→List Nat×Nat
 | 0=>(out,0)
 | k+1=>((innerK x b i out k).1.set (i+k) ((x*b.getD k 0+(innerK x b i out k).1.getD (i+k) 0+(innerK x b i out k).2)%WB),(x*b.getD k 0+(innerK x b i out k).1.getD (i+k) 0+(innerK x b i out k).2) / WB)
def outerK (a b:List Nat):Nat→List Nat
 | 0=>List.replicate 8 0
 | i+1=>(innerK (a.getD i 0) b i (outerK a b i) 4).1.set (i+4) (innerK (a.getD i 0) b i (outerK a b i) 4).2
theorem innerK_length (x:Nat) (b:List Nat) (i:Nat) (out:List Nat) : ∀ k,(innerK x b i out k).1.length=out.length
 | 0=>rfl
 | k+1=>by unfold innerK; rw [List.length_set]; exact innerK_length x b i out k
theorem outerK_length (a b:List Nat) : ∀ i,(outerK a b i).length=8
 | 0=>rfl
 | i+1=>by unfold outerK; rw [List.length_set,innerK_length]; exact outerK_length a b i
theorem set_lt {l:List Nat} {j y:Nat} (h : ∀ x∈l,x<WB) (hy:y<WB) : ∀ x∈l.set j y,x<WB:=by
 intro x hx
 rcases List.mem_or_eq_of_mem_set hx with hx | rfl
 · exact h x hx
 · exact hy
theorem at_lt {l:List Nat} (h : ∀ x∈l,x<WB) (k:Nat):l.getD k 0<WB:=by
 rw [List.getD_eq_getElem?_getD]
 cases hk:l[k]? with
 | none=>decide
 | some x=>exact h x (List.mem_of_getElem? hk)
theorem step_lt {x y z c:Nat} (hx:x<WB) (hy:y<WB) (hz:z<WB) (hc:c<WB):x*y+z+c<WB*WB:=by
 have:x*y≤(WB-1)*(WB-1):=Nat.mul_le_mul (by omega) (by omega)
 have e:(WB-1)*(WB-1)+(WB-1)+(WB-1)<WB*WB:=by decide
 omega
theorem innerK_lt {x:Nat} {b out:List Nat} {i:Nat} (hx:x<WB) (hb : ∀ y∈b,y<WB) (ho : ∀ y∈out,y<WB) : ∀ k,(∀ y∈(innerK x b i out k).1,y<WB)∧(innerK x b i out k).2<WB
 | 0=>⟨ho,(by decide:0<WB)⟩
 | k+1=>by
   obtain ⟨h1,h2⟩:=innerK_lt hx hb ho k
   have h3:=step_lt hx (at_lt hb k) (at_lt h1 (i+k)) h2
   exact ⟨set_lt h1 (Nat.mod_lt _ (by decide)),Nat.div_lt_of_lt_mul h3⟩
theorem outerK_lt {a b:List Nat} (ha : ∀ y∈a,y<WB) (hb : ∀ y∈b,y<WB) : ∀ i,∀ y∈outerK a b i,y<WB
 | 0=>by intro y hy; rw [List.eq_of_mem_replicate hy]; decide
 | i+1=>by
   have:=innerK_lt (i:=i) (at_lt ha i) hb (outerK_lt ha hb i) 4
   exact set_lt this.1 this.2
theorem val_take (b:List Nat) : ∀ k,k<b.length→val (b.take (k+1))=val (b.take k)+b.getD k 0*WB^k:=by
 induction b with
 | nil=>intro k hk; simp at hk
 | cons y b ih =>
   intro k hk
   cases k with
   | zero=>simp [val]
   | succ k =>
     rw [List.take_succ_cons,List.take_succ_cons,val_cons,val_cons,ih k (by simpa using hk),List.getD_cons_succ,Nat.pow_succ,Nat.mul_add,← Nat.mul_assoc (b.getD k 0),Nat.mul_comm (b.getD k 0*WB^k)]
     omega
theorem innerK_val {x:Nat} {b out:List Nat} {i:Nat} : ∀ k,k≤b.length→i+k≤out.length→val (innerK x b i out k).1+(innerK x b i out k).2*WB^(i+k)=val out+x*val (b.take k)*WB^i
 | 0,_,_=>by simp [innerK,val]
 | k+1,h1,h2=>by
   have ih:=innerK_val (x:=x) (b:=b) (out:=out) (i:=i) k (by omega) (by omega)
   have hl:=innerK_length x b i out k
   unfold innerK
   dsimp only
   obtain ⟨D,hD⟩ : ∃ D,D=(innerK x b i out k).1:=⟨_,rfl⟩
   obtain ⟨c,hc⟩ : ∃ c,c=(innerK x b i out k).2:=⟨_,rfl⟩
   rw [← hD,← hc] at ih ⊢
   rw [← hD] at hl
   have hs:=val_set D (i+k) ((x*b.getD k 0+D.getD (i+k) 0+c)%WB) (by omega)
   rw [val_take b k (by omega)]
   have hdm:=Nat.div_add_mod (x*b.getD k 0+D.getD (i+k) 0+c) WB
   generalize (x*b.getD k 0+D.getD (i+k) 0+c) / WB=q at *
   generalize (x*b.getD k 0+D.getD (i+k) 0+c)%WB=r at *
   have e1:q*WB^(i+(k+1))=WB*q*WB^(i+k):=by rw [← Nat.add_assoc,Nat.pow_succ,Nat.mul_comm (WB^(i+k)) WB,← Nat.mul_assoc,Nat.mul_comm q WB]
   have e2:(WB*q+r)*WB^(i+k)=(x*b.getD k 0+D.getD (i+k) 0+c)*WB^(i+k):=by rw [hdm]
   have e3:x*(val (b.take k)+b.getD k 0*WB^k)*WB^i=x*val (b.take k)*WB^i+x*b.getD k 0*WB^(i+k):=by
    rw [Nat.mul_add,Nat.add_mul,Nat.pow_add]
    congr 1
    rw [Nat.mul_comm (WB^i) (WB^k),← Nat.mul_assoc,← Nat.mul_assoc]
   rw [e1,e3]
   simp only [Nat.add_mul] at e2
   omega
theorem innerK_above {x:Nat} {b out:List Nat} {i j:Nat} : ∀ k,i+k≤j→(innerK x b i out k).1.getD j 0=out.getD j 0
 | 0,_=>rfl
 | k+1,h=>by
   unfold innerK
   dsimp only
   rw [List.getD_eq_getElem?_getD,List.getElem?_set_ne (by omega),← List.getD_eq_getElem?_getD]
   exact innerK_above k (by omega)
theorem outerK_above (a b:List Nat) {j:Nat} : ∀ i,i+4≤j→(outerK a b i).getD j 0=0
 | 0,_=>by
   unfold outerK
   rw [List.getD_eq_getElem?_getD,List.getElem?_replicate]
   split <;> rfl
 | i+1,h=>by
   unfold outerK
   rw [List.getD_eq_getElem?_getD,List.getElem?_set_ne (by omega),← List.getD_eq_getElem?_getD,innerK_above 4 (by omega)]
   exact outerK_above a b i (by omega)
theorem outerK_val {a b:List Nat} (ha:a.length=4) (hb:b.length=4) : ∀ i,i≤4→val (outerK a b i)=val (a.take i)*val b
 | 0,_=>by simp [outerK,val,List.replicate]
 | i+1,h=>by
   have ih:=outerK_val ha hb i (by omega)
   have hl:=outerK_length a b i
   have hv:=innerK_val (x:=a.getD i 0) (b:=b) (out:=outerK a b i) (i:=i) 4 (by omega) (by omega)
   have hz:(innerK (a.getD i 0) b i (outerK a b i) 4).1.getD (i+4) 0=0:=by rw [innerK_above 4 (Nat.le_refl _)]; exact outerK_above a b i (Nat.le_refl _)
   have hs:=val_set (innerK (a.getD i 0) b i (outerK a b i) 4).1 (i+4) (innerK (a.getD i 0) b i (outerK a b i) 4).2 (by rw [innerK_length,hl]; omega)
   rw [hz,Nat.zero_mul,Nat.add_zero] at hs
   show val ((innerK (a.getD i 0) b i (outerK a b i) 4).1.set (i+4) (innerK (a.getD i 0) b i (outerK a b i) 4).2)=_
   rw [hs,hv,ih,val_take a i (by omega),Nat.add_mul,show b.take 4=b from List.take_of_length_le (by omega),Nat.mul_assoc (a.getD i 0),Nat.mul_comm (val b),← Nat.mul_assoc]
theorem outerK_words {a b:List Nat} (ha:W4s a) (hb:W4s b):outerK a b 4=words (val a*val b) 8:=by
 have h1:=outerK_val ha.1 hb.1 4 (Nat.le_refl _)
 rw [show a.take 4=a from List.take_of_length_le (by rw [ha.1]; exact Nat.le_refl _)] at h1
 have h2:=words_val (outerK a b 4) (outerK_lt ha.2 hb.2 4)
 rw [outerK_length,h1] at h2
 exact h2.symm
end Fld
end Go.Proofs.YtfodadedkilgdaaGreatDoor
namespace Go.Proofs.YtfodadedkilgdaaGreatDoor
set_option linter.unusedVariables false
set_option linter.unusedSimpArgs false
open Go.RowKit Bits Mem Sha
namespace Fld
theorem info8:(Tryz.prog.info? 223).map (·.size)=some 8:=by kernel_rfl
theorem infoL8 (l:List Nat) (hl:l.length=8):(Tryz.prog.info? 223).map (·.size)=some (wN l).size:=by rw [wN_size,hl]; exact info8
theorem zN8:wN (List.replicate 8 0) = #[.int .u64 0,.int .u64 0,.int .u64 0,.int .u64 0,.int .u64 0,.int .u64 0,.int .u64 0,.int .u64 0]:=rfl
theorem run_idxE (l:List Nat) (hl:l.length=4) (i:Nat) (hi:i<4) (w:World) :
 (Instr.index 173 (.agg (wN l)) (.int .i64 (i:Int))).run Tryz.prog w = .ok (.int .u64 ((l.getD i 0:Nat):Int)) w:=by
 have hg:=wN_get l i (by omega)
 obtain ⟨i0,h1,h2⟩ : ∃ i0,Tryz.prog.info? 23=some i0∧i0.size=1:=by
  have:(Tryz.prog.info? 23).map (·.size)=some 1:=by kernel_rfl
  obtain ⟨i0,h1,h2⟩:=Option.map_eq_some_iff.1 this
  exact ⟨i0,h1,h2⟩
 simp [Instr.index,asIntOf,Sem.run_bind,run_underlying Tryz.underlying173,run_underlying Tryz.underlying23,sizeOf,typeInfo,h1,h2,part,isAgg,hg]
 intro h; omega
structure PrAt (w:World) (a b D:List Nat) (g:Nat) (wr:World):Prop where
 ra:wr.heap[g]? = some (.cells (wN a) 173 (0,0))
 rb:wr.heap[g+1]? = some (.cells (wN b) 173 (0,0))
 rz:wr.heap[g+1+1]? = some (.cells (wN (List.replicate 8 0)) 223 (0,0))
 rd:wr.heap[g+1+1+1]? = some (.cells (wN D) 223 (0,0))
 be:Below w.heap.size w wr
theorem PrAt.start (w:World) (a b:List Nat):PrAt w a b (List.replicate 8 0) w.heap.size ((((w.alloc (.cells (wN a) 173)).alloc (.cells (wN b) 173)).alloc (.cells (wN (List.replicate 8 0)) 223)).alloc (.cells (wN (List.replicate 8 0)) 223)):=by
 refine ⟨?_,?_,?_,?_,(((((Below.refl _ _).alloc (Nat.le_refl _) _).alloc (by simp) _).alloc (by simp; omega) _).alloc (by simp; omega) _)⟩
 · exact (Rg.heap_alloc_past _ _ _ (by simp; omega)).trans ((Rg.heap_alloc_past _ _ _ (by simp; omega)).trans ((Rg.heap_alloc_past _ _ _ (by simp)).trans (Rg.heap_alloc_at _ _ _ rfl)))
 · exact (Rg.heap_alloc_past _ _ _ (by simp)).trans ((Rg.heap_alloc_past _ _ _ (by simp)).trans (Rg.heap_alloc_at _ _ _ (by simp)))
 · exact (Rg.heap_alloc_past _ _ _ (by simp)).trans (Rg.heap_alloc_at _ _ _ (by simp))
 · exact Rg.heap_alloc_at _ _ _ (by simp)
theorem PrAt.next {w wr:World} {a b D:List Nat} {g:Nat} (h:PrAt w a b D g wr) (hg:g=w.heap.size) (D':List Nat):PrAt w a b D' g (wr.setRow (g+1+1+1) (wN D')) :=
 ⟨(setRow_otherE _ _ (by omega)).trans h.ra,(setRow_otherE _ _ (by omega)).trans h.rb,(setRow_otherE _ _ (by omega)).trans h.rz,setRow_heap _ _ _ _ _ _ h.rd,Rg.below_setRow h.be (by omega) _⟩
set_option maxRecDepth 100000 in
set_option maxHeartbeats 4000000 in
theorem product_any (a b:List Nat) (w:World) (ha:W4s a) (hb:W4s b) :
 Calls Tryz.prog 142 #[.agg (wN a),.agg (wN b)] w fun e w'=>e = .returned (.agg (wN (words (val a*val b) 8)))∧Below w.heap.size w w':=by
 have HA:=Lib.hid ha
 have HB:=Lib.hid hb
 have HST:=Lib.hid (PrAt.start w a b)
 have HOW:=Lib.hid (outerK_words ha hb)
 clear ha hb
 rw [← HOW.out]
 go_enter Tryz.func142,Tryz.ntmps142
 have HIA:=Lib.hid (infoL a HA.out.1)
 go_upto_region 2 with fail
 rw [← zN8]
 obtain ⟨w0,hw0⟩ : ∃ w0,w0=((((w.alloc (.cells (wN a) 173)).alloc (.cells (wN b) 173)).alloc (.cells (wN (List.replicate 8 0)) 223)).alloc (.cells (wN (List.replicate 8 0)) 223)):=⟨_,rfl⟩
 rw [← hw0] at HST ⊢
 clear hw0
 go_wp2_with (refine wpList_load_row rfl 173 _ rfl w.heap.size rfl 173 (wN a) (0,0) _ HST.out.ra Tryz.underlying173 rfl HIA.out ?_)
 go_loopw [16] (fun v wr => ∃ i:Nat,i≤4∧v = .int .i64 (i:Int)∧Hid (PrAt w a b (outerK a b i) w.heap.size wr)) (fun v _=>4-(intOf v).toNat)
 case atStart=>exact ⟨0,by omega,rfl,HST⟩
 case round =>
  clear HST
  obtain ⟨i,hi,rfl,HR⟩:=hrel
  by_cases hlt:i<4
  ·have g1:=wN_get a i (by rw [HA.out.1]; exact hlt)
   have HIB:=Lib.hid (infoL b HB.out.1)
   have hxl:=HA.out.at i
   obtain ⟨x,hx⟩ : ∃ x,x=a.getD i 0:=⟨_,rfl⟩
   have HIX:Hid (∀ w,(Instr.index 173 (.agg (wN a)) (.int .i64 (i:Int))).run Tryz.prog w = .ok (.int .u64 (x:Int)) w):=Lib.hid (fun w=>by rw [hx]; exact run_idxE a HA.out.1 i hlt w)
   rw [← hx] at hxl
   have HX:=Lib.hid hx
   have q1:(i:Int)<4:=by omega
   clear hx
   obtain ⟨g,hg⟩ : ∃ g,g=w.heap.size:=⟨_,rfl⟩
   rw [← hg] at HR ⊢
   have HG:=Lib.hid hg
   clear hg
   go_wp2_with fail
   rw [HIX.out]
   go_wp2_with (refine wpList_load_row rfl 173 _ rfl (g+1) rfl 173 (wN b) (0,0) _ HR.out.rb Tryz.underlying173 rfl HIB.out ?_)
   obtain ⟨O,hO⟩ : ∃ O,O=outerK a b i:=⟨_,rfl⟩
   have hOl:=outerK_length a b i
   have hOB:=outerK_lt HA.out.2 HB.out.2 i
   rw [← hO] at HR hOl hOB
   have HO:=Lib.hid hO
   have HOL:=Lib.hid hOl
   have HOB:=Lib.hid hOB
   have HIN:=Lib.hid (fun k=>innerK_lt (i:=i) hxl HB.out.2 hOB k)
   clear hO hOl hOB
   go_loopw [8,21] (fun c v wr' => ∃ k:Nat,k≤4∧v = .int .i64 (k:Int)∧c = .int .u64 (((innerK x b i O k).2:Nat):Int)∧Hid (PrAt w a b (innerK x b i O k).1 g wr')) (fun _ v _=>4-(intOf v).toNat)
   case atStart=>exact ⟨0,by omega,rfl,rfl,HR⟩
   case round =>
    clear HR
    obtain ⟨k,hk,rfl,rfl,HQ⟩:=hrel
    by_cases hlk:k<4
    ·have q2:(k:Int)<4:=by omega
     obtain ⟨D,hD⟩ : ∃ D,D=(innerK x b i O k).1:=⟨_,rfl⟩
     obtain ⟨c,hc⟩ : ∃ c,c=(innerK x b i O k).2:=⟨_,rfl⟩
     obtain ⟨y,hy⟩ : ∃ y,y=b.getD k 0:=⟨_,rfl⟩
     obtain ⟨j,hj⟩ : ∃ j,j=i+k:=⟨_,rfl⟩
     obtain ⟨z,hz⟩ : ∃ z,z=D.getD j 0:=⟨_,rfl⟩
     have hDl:D.length=8:=by rw [hD,innerK_length]; exact HOL.out
     have hyl:y<18446744073709551616:=by rw [hy]; exact HB.out.at k
     have hzl:z<18446744073709551616:=by rw [hz,hD]; exact at_lt (HIN.out k).1 j
     have hcl:c<18446744073709551616:=by rw [hc]; exact (HIN.out k).2
     rw [← hD] at HQ
     rw [← hc]
     have HIY:Hid (∀ w,(Instr.index 173 (.agg (wN b)) (.int .i64 (k:Int))).run Tryz.prog w = .ok (.int .u64 (y:Int)) w):=Lib.hid (fun w=>by rw [hy]; exact run_idxE b HB.out.1 k hlk w)
     have HM0:=mul64_any x y hxl hyl
     have hst:innerK x b i O (k+1)=(D.set j ((x*y+z+c)%WB),(x*y+z+c) / WB):=by
      unfold innerK
      rw [← hD,← hc,← hy,← hj,← hz]
     have hpl:x*y / 18446744073709551616≤18446744073709551614:=by
      have:x*y≤18446744073709551615*18446744073709551615:=Nat.mul_le_mul (by omega) (by omega)
      omega
     have hpz:=Nat.div_lt_of_lt_mul (step_lt hxl hyl hzl hcl)
     obtain ⟨p,hp⟩ : ∃ p,p=x*y:=⟨_,rfl⟩
     rw [← hp] at HM0 hst hpl hpz
     obtain ⟨h0,hh0⟩ : ∃ h,h=p / 18446744073709551616:=⟨_,rfl⟩
     obtain ⟨l0,hl0⟩ : ∃ l,l=p%18446744073709551616:=⟨_,rfl⟩
     rw [← hh0,← hl0] at HM0
     obtain ⟨s1,hs1⟩ : ∃ s,s=(l0+z)%18446744073709551616:=⟨_,rfl⟩
     obtain ⟨o1,ho1⟩ : ∃ o,o=(l0+z) / 18446744073709551616:=⟨_,rfl⟩
     obtain ⟨s2,hs2⟩ : ∃ s,s=(s1+c)%18446744073709551616:=⟨_,rfl⟩
     obtain ⟨o2,ho2⟩ : ∃ o,o=(s1+c) / 18446744073709551616:=⟨_,rfl⟩
     obtain ⟨h1,hh1⟩ : ∃ h,h=h0+o1:=⟨_,rfl⟩
     obtain ⟨h2,hh2⟩ : ∃ h,h=h1+o2:=⟨_,rfl⟩
     have HE1:Hid ((p+z+c)%WB=s2):=Lib.hid (by unfold WB; omega)
     have HE2:Hid ((p+z+c) / WB=h2):=Lib.hid (by unfold WB; omega)
     have hc1 : ∀ w:World,(callFunc 95 #[.int .u64 (l0:Int),.int .u64 (z:Int),.int .u64 0]).run Tryz.prog w = .ok (.value (.tuple #[.int .u64 (s1:Int),.int .u64 (o1:Int)])) w:=fun w=>by
      rw [Ab.add64_run (l0:Int) (z:Int) 0 (by omega) (by omega) (by omega) (by omega) w]
      rw [show ((l0:Int)+z+0)%18446744073709551616=(s1:Int) by omega,show ((l0:Int)+z+0) / 18446744073709551616=(o1:Int) by omega]
     have hc2 : ∀ w:World,(callFunc 95 #[.int .u64 (s1:Int),.int .u64 (c:Int),.int .u64 0]).run Tryz.prog w = .ok (.value (.tuple #[.int .u64 (s2:Int),.int .u64 (o2:Int)])) w:=fun w=>by
      rw [Ab.add64_run (s1:Int) (c:Int) 0 (by omega) (by omega) (by omega) (by omega) w]
      rw [show ((s1:Int)+c+0)%18446744073709551616=(s2:Int) by omega,show ((s1:Int)+c+0) / 18446744073709551616=(o2:Int) by omega]
     have hwj:IntKind.i64.wrap ((i:Int)+(k:Int))=(j:Int):=by rw [IntKind.wrap_i64]; omega
     have hw1:IntKind.u64.wrap ((h0:Int)+(o1:Int))=(h1:Int):=by rw [IntKind.wrap_u64]; omega
     have hb2:h2<18446744073709551616:=by have:=HE2.out; rw [this] at hpz; exact hpz
     have hw2:IntKind.u64.wrap ((h1:Int)+(o2:Int))=(h2:Int):=by rw [IntKind.wrap_u64]; omega
     have q3:(j:Int)<8:=by omega
     have hcell:wr.cell? ⟨g+1+1+1,j,none⟩=some (.int .u64 (z:Int)):=(cell_of_row _ _ _ _ _ _ HQ.out.rd).trans (by rw [hz]; exact wN_get D j (by omega))
     have hfroz:wr.frozen? ⟨g+1+1+1,j,none⟩=false:=frozen_of_row _ _ _ _ _ HQ.out.rd
     obtain ⟨wn,hwn⟩ : ∃ wn,wn=wr.setCell ⟨g+1+1+1,j,none⟩ (.int .u64 (s2:Int)):=⟨_,rfl⟩
     have hQ2:PrAt w a b (innerK x b i O (k+1)).1 g wn:=by
      rw [hst,HE1.out,hwn,setCell_eq_setRow wr (g+1+1+1) j _ _ _ _ HQ.out.rd,wN_set]
      exact HQ.out.next HG.out _
     have HC2:Hid ((innerK x b i O (k+1)).2=h2):=Lib.hid (by rw [hst,HE2.out])
     have HQ2:=Lib.hid hQ2
     have HWN:=Lib.hid hwn
     have HM:=Lib.hid HM0
     clear hD hc hy hj hz hDl hyl hzl hcl HM0 hst hpl hpz hb2 hp hh0 hl0 hs1 ho1 hs2 ho2 hh1 hh2 HQ hQ2 hwn
     go_wp2_with fail
     rw [HIY.out]
     go_wp2_with fail
     refine (HM.out wr).mono ?_
     rintro e w' ⟨rfl,rfl⟩
     go_wp2_with fail
     exact ⟨⟨k+1,by omega,by congr 1,by rw [HC2.out],by rw [← HWN.out]; exact HQ2⟩,by simp only [intOf]; omega⟩
    ·obtain rfl:k=4:=by omega
     obtain ⟨D,hD⟩ : ∃ D,D=(innerK x b i O 4).1:=⟨_,rfl⟩
     obtain ⟨c,hc⟩ : ∃ c,c=(innerK x b i O 4).2:=⟨_,rfl⟩
     obtain ⟨j,hj⟩ : ∃ j,j=i+4:=⟨_,rfl⟩
     have hDl:D.length=8:=by rw [hD,innerK_length]; exact HOL.out
     have hst:outerK a b (i+1)=D.set j c:=by
      unfold outerK
      rw [← HX.out,← HO.out,← hD,← hc,hj]
     rw [← hD] at HQ
     rw [← hc]
     have hwj:IntKind.i64.wrap ((i:Int)+4)=(j:Int):=by rw [IntKind.wrap_i64]; omega
     have q3:(j:Int)<8:=by omega
     have hcell:wr.cell? ⟨g+1+1+1,j,none⟩=some (.int .u64 ((D.getD j 0:Nat):Int)):=(cell_of_row _ _ _ _ _ _ HQ.out.rd).trans (wN_get D j (by omega))
     have hfroz:wr.frozen? ⟨g+1+1+1,j,none⟩=false:=frozen_of_row _ _ _ _ _ HQ.out.rd
     obtain ⟨wn,hwn⟩ : ∃ wn,wn=wr.setCell ⟨g+1+1+1,j,none⟩ (.int .u64 (c:Int)):=⟨_,rfl⟩
     have hQ2:PrAt w a b (outerK a b (i+1)) g wn:=by
      rw [hst,hwn,setCell_eq_setRow wr (g+1+1+1) j _ _ _ _ HQ.out.rd,wN_set]
      exact HQ.out.next HG.out _
     have HQ2:=Lib.hid hQ2
     have HWN:=Lib.hid hwn
     have hn4 : ¬ ((4:Nat):Int)<4:=by omega
     have q1':(i:Int)<4:=by omega
     clear hD hc hj hDl hst HQ hQ2 hwn
     go_wp2_with fail
     exact ⟨⟨i+1,by omega,by congr 1,by rw [← HWN.out]; exact HQ2⟩,by simp only [intOf]; omega⟩
  ·obtain rfl:i=4:=by omega
   obtain ⟨D,hD⟩ : ∃ D,D=outerK a b 4:=⟨_,rfl⟩
   have hDl:D.length=8:=by rw [hD]; exact outerK_length a b 4
   rw [← hD] at HR
   have HDE:=Lib.hid hD
   have HID:=Lib.hid (infoL8 D hDl)
   have HZ:Hid ((wN (List.replicate 8 0)).size=(wN D).size):=Lib.hid (by rw [wN_size,wN_size,hDl]; rfl)
   obtain ⟨g,hg⟩ : ∃ g,g=w.heap.size:=⟨_,rfl⟩
   rw [← hg] at HR ⊢
   have HG:=Lib.hid hg
   have hn4 : ¬ ((4:Nat):Int)<4:=by omega
   clear hD hDl hg
   go_wp2_with (first | (refine wpList_load_row rfl 223 _ rfl (g+1+1+1) rfl 223 (wN D) (0,0) _ HR.out.rd Tryz.underlying223 rfl HID.out ?_) | (refine Rg.store_row rfl 223 _ _ rfl (g+1+1) rfl 223 (wN (List.replicate 8 0)) (wN D) rfl HR.out.rz HID.out HZ.out (wN_one _) ?_))
   refine bodyPost_ret (v := .agg (wN D)) (results_cell_row (P:=Tryz.prog) rfl _ _ (g+1+1) 223 (wN D) (0,0) _ rfl (setRow_heap _ _ _ _ 223 _ HR.out.rz) Tryz.underlying223 rfl HID.out) rfl ⟨by rw [HDE.out],Rg.below_setRow HR.out.be (by have:=HG.out; omega) _⟩
end Fld
end Go.Proofs.YtfodadedkilgdaaGreatDoor

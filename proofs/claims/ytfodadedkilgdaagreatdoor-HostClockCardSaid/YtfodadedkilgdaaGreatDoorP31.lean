/- A part of the proof. Plain; no condition. -/
import Derived.Test.YtfodadedkilgdaaGreatDoorP30
import Derived.Test.YtfodadedkilgdaaGreatDoorP29
namespace Go.Proofs.YtfodadedkilgdaaGreatDoor
set_option linter.unusedVariables false
set_option linter.unusedSimpArgs false
open Go.RowKit Bits Mem Sha
namespace Sca
open Fld hiding SubAt SubAt.start sub_any infoE
def Q:Nat:=7237005577332262213973186563042994240857116359379907606001950938285454250989
def OT (w:World):Prop:=GRow w (2:Nat) (wN (words Q 4))
theorem OT.below {w w':World} (h:OT w) (hb:Below w.heap.size w w'):OT w':=GRow.below h hb
theorem Q_W4:Q<W4:=by decide
def sn (n:Nat):Array Value:=wN (words n 4)
theorem sn_size (n:Nat):(sn n).size=4:=by unfold sn; rw [wN_size,words_length]
theorem infoSn (n:Nat):(Tryz.prog.info? 171).map (·.size)=some (sn n).size:=by rw [sn_size]; exact infoE
theorem sn_one (n:Nat):(sn n).all (·.oneCell')=true:=wN_one _
theorem sn_zero:(#[.int .u64 0,.int .u64 0,.int .u64 0,.int .u64 0]:Array Value)=sn 0:=rfl
theorem load_nl {x:World} {b:Nat} {l:List Nat} {t:TypeId} {f:Nat×Nat} (h:x.heap[b]? = some (.cells (wN l) t f)) (hl:l.length=4):(Instr.loadAt 171 (.pointer (some ⟨b,0,none⟩))).run Tryz.prog x = .ok (.agg (wN l)) x:=by
 have:=run_loadAt_mid x b 0 171 (wN l).toList _ (fun j u hu=>by
  rw [Nat.zero_add,cell_of_row x b _ _ _ _ h]
  simpa using hu) Tryz.underlying171 rfl (by
  rw [Array.length_toList,wN_size,hl]; exact infoE)
 simpa using this
theorem load_sn {x:World} {b:Nat} {n:Nat} {t:TypeId} {f:Nat×Nat} (h:x.heap[b]? = some (.cells (sn n) t f)):(Instr.loadAt 171 (.pointer (some ⟨b,0,none⟩))).run Tryz.prog x = .ok (.agg (sn n)) x:=load_nl h (words_length 4 _)
theorem OT.load {w:World} (h:OT w):(Instr.loadAt 171 (.pointer (some ⟨2,0,none⟩))).run Tryz.prog w = .ok (.agg (sn Q)) w:=by
 obtain ⟨t,f,hh⟩:=h
 exact load_nl hh (words_length 4 _)
theorem sub_sn (m n:Nat) (hm:m<W4) (hn:n<W4) (w:World):Calls Tryz.prog 97 #[.agg (sn m),.agg (sn n)] w fun e w'=>e = .returned (.tuple #[.agg (sn (m+W4-n)),.int .u64 (((if m<n then 1 else 0:Nat):Nat):Int)])∧Below w.heap.size w w':=by
 have h:=sub_any (words m 4) (words n 4) w (words_length 4 _) (words_length 4 _)
 have e:=subC_words 4 m n 0 (by rw [W4_pow]; exact hm) (by rw [W4_pow]; exact hn) (Nat.zero_le _)
 rw [e,Nat.sub_zero,Nat.add_zero] at h
 exact h
set_option maxRecDepth 100000 in
set_option maxHeartbeats 400000 in
theorem less_sn (m n:Nat) (hm:m<W4) (hn:n<W4) (w:World):Calls Tryz.prog 96 #[.agg (sn m),.agg (sn n)] w fun e w'=>e = .returned (.bool (decide (m<n)))∧Below w.heap.size w w':=by
 obtain ⟨w1,hw1⟩ : ∃ w1,w1=(w.alloc (.cells (sn m) 171)).alloc (.cells (sn n) 171):=⟨_,rfl⟩
 have hb1:Below w.heap.size w w1:=by rw [hw1]; exact ((Below.refl _ _).alloc (Nat.le_refl _) _).alloc (by simp) _
 have hr0:w1.heap[w.heap.size]? = some (.cells (sn m) 171 (0,0)):=by rw [hw1]; exact (Rg.heap_alloc_past _ _ _ (by simp)).trans (Rg.heap_alloc_at w _ _ rfl)
 have hr1:w1.heap[w.heap.size+1]? = some (.cells (sn n) 171 (0,0)):=by rw [hw1]; exact Rg.heap_alloc_at _ _ _ (by simp)
 have HB1:=Lib.hid hb1
 have HR0:=Lib.hid hr0
 have HR1:=Lib.hid hr1
 have HW1:=Lib.hid hw1
 obtain ⟨d,hd⟩ : ∃ d,d=m+W4-n:=⟨_,rfl⟩
 obtain ⟨u,hu⟩ : ∃ u:Nat,u=(if m<n then 1 else 0:Nat):=⟨_,rfl⟩
 have HS:Hid (Calls Tryz.prog 97 #[.agg (sn m),.agg (sn n)] w1 fun e w'=>e = .returned (.tuple #[.agg (sn d),.int .u64 (u:Int)])∧Below w1.heap.size w1 w'):=Lib.hid (by rw [hd,hu]; exact sub_sn m n hm hn w1)
 have HD:Hid (decide (m<n)=decide (u=1)):=Lib.hid (by rw [hu]; by_cases h:m<n <;> simp [h])
 have HSZ:Hid ((sn 0).size=(sn d).size):=Lib.hid (by simp only [sn_size])
 clear hb1 hr0 hr1 hw1 hd hu
 go_enter Tryz.func96,Tryz.ntmps96
 go_upto_region 1 with fail
 rw [← HW1.out]
 go_wp2_with (first | (refine l_loadP rfl _ _ rfl (.pointer (some ⟨w.heap.size,0,none⟩)) rfl (.agg (sn m)) (load_sn HR0.out) ?_) | (refine l_loadP rfl _ _ rfl (.pointer (some ⟨w.heap.size+1,0,none⟩)) rfl (.agg (sn n)) (load_sn HR1.out) ?_))
 refine HS.out.mono ?_
 rintro e w2 ⟨rfl,hb⟩
 have HB2:=Lib.hid (HB1.out.trans (hb.mono HB1.out.size))
 clear hb
 go_wp2_with (refine Rg.store_row_new rfl 171 _ _ rfl w2.heap.size rfl rfl 171 _ (sn d) rfl (infoSn d) HSZ.out (sn_one _) ?_)
 go_ret
 refine ⟨?_,HB2.out.trans (((Below.refl _ _).alloc (Nat.le_refl _) _).mono HB2.out.size)⟩
 rw [HD.out]
 show Ending.returned (Value.bool (((u:Nat):Int)==1))=_
 congr 2
 rw [Bool.eq_iff_iff,beq_iff_eq,decide_eq_true_iff]
 omega
end Sca
end Go.Proofs.YtfodadedkilgdaaGreatDoor
namespace Go.Proofs.YtfodadedkilgdaaGreatDoor
set_option linter.unusedVariables false
set_option linter.unusedSimpArgs false
open Go.RowKit Bits Mem Sha
namespace Sca
open Fld hiding SubAt SubAt.start sub_any infoE
def twC:List Nat→Nat→List Nat
 | [],_ => []
 | x::l,b=>(2*x+b)%WB::twC l ((2*x+b) / WB)
theorem twC_words (k:Nat) : ∀ n b,twC (words n k) b=words (2*n+b) k:=by
 induction k with
 | zero=>intro n b; rfl
 | succ k ih =>
   intro n b
   simp only [words,twC]
   rw [ih]
   unfold WB
   rw [show (2*(n%18446744073709551616)+b)%18446744073709551616=(2*n+b)%18446744073709551616 by omega,show 2*(n / 18446744073709551616)+(2*(n%18446744073709551616)+b) / 18446744073709551616=(2*n+b) / 18446744073709551616 by omega]
def twK (l:List Nat) (b:Nat):Nat→List Nat×Nat
 | 0=>([0,0,0,0],b)
 | k+1=>((twK l b k).1.set k ((2*l.getD k 0+(twK l b k).2)%WB),(2*l.getD k 0+(twK l b k).2) / WB)
theorem twK_length (l:List Nat) (b:Nat) : ∀ k,(twK l b k).1.length=4
 | 0=>rfl
 | k+1=>by unfold twK; rw [List.length_set]; exact twK_length l b k
theorem twK_le {l:List Nat} {b:Nat} (h : ∀ y∈l,y<WB) (hb:b≤1) : ∀ k,(twK l b k).2≤1
 | 0=>hb
 | k+1=>by
   have h1:=at_lt h k
   have h2:=twK_le h hb k
   show (2*l.getD k 0+(twK l b k).2) / WB≤1
   unfold WB at *
   omega
theorem twK_all (l:List Nat) (b:Nat) (h:l.length=4):(twK l b 4).1=twC l b:=by
 match l,h with
 | [_,_,_,_],_=>rfl
theorem tw_or (x b:Nat) (hb:b≤1):(x*2%18446744073709551616) ||| b=(2*x+b)%18446744073709551616:=by
 have h:=Nat.two_pow_add_eq_or_of_lt (i:=1) (b:=b) (by omega) (x%9223372036854775808)
 rw [Nat.pow_one] at h
 rw [show x*2%18446744073709551616=2*(x%9223372036854775808) by omega,← h]
 omega
structure TwAt (w:World) (n:Nat) (D:List Nat) (g:Nat) (wr:World):Prop where
 ra:wr.heap[g]? = some (.cells (sn n) 171 (0,0))
 ro:wr.heap[g+1]? = some (.cells (sn 0) 171 (0,0))
 rd:wr.heap[g+1+1]? = some (.cells (wN D) 171 (0,0))
 be:Below w.heap.size w wr
theorem TwAt.next {w wr:World} {n:Nat} {D:List Nat} {g:Nat} (h:TwAt w n D g wr) (hg:g=w.heap.size) (D':List Nat):TwAt w n D' g (wr.setRow (g+1+1) (wN D')) :=
 ⟨(setRow_otherE _ _ (by omega)).trans h.ra,(setRow_otherE _ _ (by omega)).trans h.ro,setRow_heap _ _ _ _ _ _ h.rd,Rg.below_setRow h.be (by omega) _⟩
set_option maxRecDepth 100000 in
set_option maxHeartbeats 1000000 in
theorem twice_sn (n b:Nat) (hn:n<Q) (hb:b≤1) (w:World) (hO:OT w):Calls Tryz.prog 139 #[.agg (sn n),.int .u64 (b:Int)] w fun e w'=>e = .returned (.agg (sn ((2*n+b)%Q)))∧Below w.heap.size w w':=by
 obtain ⟨w1,hw1⟩ : ∃ w1,w1=((w.alloc (.cells (sn n) 171)).alloc (.cells (sn 0) 171)).alloc (.cells (sn 0) 171):=⟨_,rfl⟩
 have hb1:Below w.heap.size w w1:=by rw [hw1]; exact (((Below.refl _ _).alloc (Nat.le_refl _) _).alloc (by simp) _).alloc (by simp; try omega) _
 have hr0:w1.heap[w.heap.size]? = some (.cells (sn n) 171 (0,0)):=by rw [hw1]; exact (Rg.heap_alloc_past _ _ _ (by simp; try omega)).trans ((Rg.heap_alloc_past _ _ _ (by simp)).trans (Rg.heap_alloc_at w _ _ rfl))
 have hr1:w1.heap[w.heap.size+1]? = some (.cells (sn 0) 171 (0,0)):=by rw [hw1]; exact (Rg.heap_alloc_past _ _ _ (by simp)).trans (Rg.heap_alloc_at _ _ _ (by simp))
 have hr2:w1.heap[w.heap.size+1+1]? = some (.cells (wN [0,0,0,0]) 171 (0,0)):=by rw [hw1]; exact Rg.heap_alloc_at _ _ _ (by simp)
 have HST:Hid (TwAt w n [0,0,0,0] w.heap.size w1):=Lib.hid ⟨hr0,hr1,hr2,hb1⟩
 have HW1:=Lib.hid hw1
 have HO:=Lib.hid hO
 have HN:=Lib.hid hn
 have HB:=Lib.hid hb
 obtain ⟨l,hl⟩ : ∃ l,l=words n 4:=⟨_,rfl⟩
 have hll:l.length=4:=by rw [hl]; exact words_length 4 n
 have hlB : ∀ y∈l,y<WB:=by rw [hl]; exact words_lt 4 n
 have HL:=Lib.hid hl
 have HLL:=Lib.hid hll
 have HLB:=Lib.hid hlB
 clear hb1 hr0 hr1 hr2 hw1 hO hn hb hl hll hlB
 go_enter Tryz.func139,Tryz.ntmps139
 go_upto_region 2 with fail
 rw [sn_zero,← HW1.out]
 obtain ⟨g,hg⟩ : ∃ g,g=w.heap.size:=⟨_,rfl⟩
 rw [← hg] at HST ⊢
 have HG:=Lib.hid hg
 clear hg
 go_wp2_with fail
 go_loopw [1,9] (fun c v wr => ∃ k:Nat,k≤4∧v = .int .i64 (k:Int)∧c = .int .u64 (((twK l b k).2:Nat):Int)∧Hid (TwAt w n (twK l b k).1 g wr)) (fun _ v _=>(4-intOf v).toNat)
 case atStart=>exact ⟨0,by omega,rfl,rfl,HST⟩
 case round =>
  clear HST
  obtain ⟨k,hk,rfl,rfl,HQ⟩:=hrel
  by_cases hlk:k<4
  ·have q1:(k:Int)<4:=by omega
   have hc1:=twK_le HLB.out HB.out k
   obtain ⟨D,hD⟩ : ∃ D,D=(twK l b k).1:=⟨_,rfl⟩
   obtain ⟨c,hc⟩ : ∃ c,c=(twK l b k).2:=⟨_,rfl⟩
   obtain ⟨x,hx⟩ : ∃ x,x=l.getD k 0:=⟨_,rfl⟩
   have hDl:D.length=4:=by rw [hD]; exact twK_length l b k
   have hxl:x<18446744073709551616:=by rw [hx]; exact at_lt HLB.out k
   have hst:twK l b (k+1)=(D.set k ((2*x+c)%WB),(2*x+c) / WB):=by unfold twK; rw [← hD,← hc,← hx]
   rw [← hD] at HQ
   rw [← hc] at hc1 ⊢
   have hca:wr.cell? ⟨g,k,none⟩=some (.int .u64 (x:Int)):=(cell_of_row _ _ _ _ _ _ HQ.out.ra).trans (by rw [hx,HL.out]; exact wN_get _ k (by rw [words_length]; omega))
   have hcd:wr.cell? ⟨g+1+1,k,none⟩=some (.int .u64 ((D.getD k 0:Nat):Int)):=(cell_of_row _ _ _ _ _ _ HQ.out.rd).trans (wN_get D k (by omega))
   have hfz:wr.frozen? ⟨g+1+1,k,none⟩=false:=frozen_of_row _ _ _ _ _ HQ.out.rd
   have hor:=u64_orN (x*2%18446744073709551616) c (by omega) (by omega)
   rw [tw_or x c hc1] at hor
   obtain ⟨y,hy⟩ : ∃ y,y=(2*x+c)%18446744073709551616:=⟨_,rfl⟩
   rw [← hy] at hor
   have hsh:IntKind.u64.wrap ((x:Int)*2)=((x*2%18446744073709551616:Nat):Int):=by rw [IntKind.wrap_u64]; omega
   obtain ⟨t,ht⟩ : ∃ t,t=x*2%18446744073709551616:=⟨_,rfl⟩
   rw [← ht] at hsh hor
   obtain ⟨wn,hwn⟩ : ∃ wn,wn=wr.setCell ⟨g+1+1,k,none⟩ (.int .u64 (y:Int)):=⟨_,rfl⟩
   have hQ2:TwAt w n (twK l b (k+1)).1 g wn:=by
    rw [hst,hwn,setCell_eq_setRow wr (g+1+1) k _ _ _ _ HQ.out.rd,wN_set,show (2*x+c)%WB=y from hy.symm]
    exact HQ.out.next HG.out _
   have HQ2:=Lib.hid hQ2
   have HWN:=Lib.hid hwn
   have HC2:Hid ((twK l b (k+1)).2=x / 9223372036854775808):=Lib.hid (by rw [hst]; show (2*x+c) / WB=_; unfold WB; omega)
   have hca2:wn.cell? ⟨g,k,none⟩=some (.int .u64 (x:Int)):=(cell_of_row _ _ _ _ _ _ hQ2.ra).trans ((cell_of_row _ _ _ _ _ _ HQ.out.ra).symm.trans hca)
   clear hD hc hx hDl hxl hst HQ hy ht hwn hQ2 hc1
   go_upto_region 6 with fail
   rw [← HWN.out]
   clear hca hcd hfz hor hsh
   go_wp2_with fail
   refine ⟨⟨k+1,by omega,by congr 1,?_,HQ2⟩,by simp only [intOf]; omega⟩
   rw [HC2.out]
   rfl
  ·obtain rfl:k=4:=by omega
   have hn4 : ¬ ((4:Nat):Int)<4:=by omega
   obtain ⟨m,hm⟩ : ∃ m,m=2*n+b:=⟨_,rfl⟩
   have hQd:Q=7237005577332262213973186563042994240857116359379907606001950938285454250989:=rfl
   have hm4:m<W4:=by have:=HN.out; have:=HB.out; rw [hm]; unfold W4; omega
   have hD:(twK l b 4).1=words m 4:=by rw [twK_all l b HLL.out,HL.out,twC_words,hm]
   rw [hD] at HQ
   obtain ⟨c,hc⟩ : ∃ c,c=(twK l b 4).2:=⟨_,rfl⟩
   rw [← hc]
   have HR:Hid (wr.heap[g+1+1]? = some (.cells (sn m) 171 (0,0))):=Lib.hid HQ.out.rd
   have HOR:=Lib.hid (HO.out.below HQ.out.be)
   have HLE:Hid (Calls Tryz.prog 96 #[.agg (sn m),.agg (sn Q)] wr fun e w'=>e = .returned (.bool (decide (m<Q)))∧Below wr.heap.size wr w'):=Lib.hid (less_sn m Q hm4 Q_W4 wr)
   obtain ⟨qa,hqa⟩ : ∃ qa,qa=sn Q:=⟨_,rfl⟩
   rw [← hqa] at HLE
   have HLD:Hid (∀ x,OT x→(Instr.loadAt 171 (.pointer (some ⟨2,0,none⟩))).run Tryz.prog x = .ok (.agg qa) x):=Lib.hid (fun x hx=>by rw [hqa]; exact hx.load)
   have hmQ:m<2*Q:=by have:=HN.out; have:=HB.out; rw [hm]; omega
   have HM:=Lib.hid hm
   have HM4:=Lib.hid hm4
   have HMQ:=Lib.hid hmQ
   have HQA:=Lib.hid hqa
   clear hc hD hQd hm hm4 hmQ hqa
   go_wp2_with (first | (refine l_loadP rfl _ _ rfl (.pointer (some ⟨g+1+1,0,none⟩)) rfl (.agg (sn m)) (load_sn HR.out) ?_) | (refine l_loadP rfl _ _ rfl (.pointer (some ⟨2,0,none⟩)) rfl (.agg qa) (HLD.out wr HOR.out) ?_))
   refine HLE.out.mono ?_
   rintro e w2 ⟨rfl,hb⟩
   have HB2:=Lib.hid (HQ.out.be.trans (hb.mono HQ.out.be.size))
   have HR2:=Lib.hid (Rp.row_le hb HR.out)
   have HO2:=Lib.hid (Rp.row_le hb HQ.out.ro)
   have HOR2:=Lib.hid (HOR.out.below hb)
   clear hb
   by_cases hlt:m<Q
   ·have hd:decide (m<Q)=true:=decide_eq_true hlt
    have HE:Hid ((2*n+b)%Q=m):=Lib.hid (by rw [← HM.out]; exact Nat.mod_eq_of_lt hlt)
    rw [hd]
    have HSZ:Hid ((sn 0).size=(sn m).size):=Lib.hid (by simp only [sn_size])
    clear hd hlt
    go_wp2_with (first | (refine l_loadP rfl _ _ rfl (.pointer (some ⟨g+1+1,0,none⟩)) rfl (.agg (sn m)) (load_sn HR2.out) ?_) | (refine Rg.store_row rfl 171 _ _ rfl (g+1) rfl 171 (sn 0) (sn m) rfl HO2.out (infoSn m) HSZ.out (sn_one _) ?_))
    refine bodyPost_ret (v := .agg (sn m)) (results_cell_row (P:=Tryz.prog) rfl _ _ (g+1) 171 (sn m) (0,0) _ rfl (setRow_heap _ _ _ _ 171 _ HO2.out) Tryz.underlying171 rfl (infoSn m)) rfl ⟨by rw [HE.out],Rg.below_setRow HB2.out (by have:=HG.out; omega) _⟩
   ·have hd:decide (m<Q)=false:=decide_eq_false hlt
    obtain ⟨r,hr⟩ : ∃ r,r=m-Q:=⟨_,rfl⟩
    have HE:Hid ((2*n+b)%Q=r):=Lib.hid (by have hmQ:=HMQ.out; rw [← HM.out,Nat.mod_eq_sub_mod (by omega),Nat.mod_eq_of_lt (by omega),hr])
    rw [hd]
    have HSU:Hid (Calls Tryz.prog 97 #[.agg (sn m),.agg qa] w2 fun e w'=>e = .returned (.tuple #[.agg (sn r),.int .u64 0])∧Below w2.heap.size w2 w'):=Lib.hid (by
     rw [HQA.out]
     have h:=sub_sn m Q HM4.out Q_W4 w2
     rw [if_neg hlt,show m+W4-Q=r+18446744073709551616^4 by rw [W4_pow]; omega] at h
     unfold sn at h ⊢
     rw [words_add] at h
     exact h)
    have HSR:Hid ((sn 0).size=(sn r).size):=Lib.hid (by simp only [sn_size])
    clear hd hlt hr
    go_wp2_with (first | (refine l_loadP rfl _ _ rfl (.pointer (some ⟨g+1+1,0,none⟩)) rfl (.agg (sn m)) (load_sn HR2.out) ?_) | (refine l_loadP rfl _ _ rfl (.pointer (some ⟨2,0,none⟩)) rfl (.agg qa) (HLD.out w2 HOR2.out) ?_))
    refine HSU.out.mono ?_
    rintro e w3 ⟨rfl,hb⟩
    obtain ⟨w4,hw4⟩ : ∃ w4,w4=w3.alloc (.cells (sn r) 171):=⟨_,rfl⟩
    have hb4:Below w3.heap.size w3 w4:=by rw [hw4]; exact (Below.refl _ _).alloc (Nat.le_refl _) _
    have hb24:=hb.trans (hb4.mono hb.size)
    have HR4:Hid (w4.heap[w3.heap.size]? = some (.cells (sn r) 171 (0,0))):=Lib.hid (by rw [hw4]; exact heap_alloc_new w3 _)
    have HB4:=Lib.hid (HB2.out.trans (hb24.mono HB2.out.size))
    have HO4:=Lib.hid (Rp.row_le hb24 HO2.out)
    have HW4:=Lib.hid hw4
    clear hb hb4 hb24 hw4
    go_upto_region 11 with (refine Rg.store_row_new rfl 171 _ _ rfl w3.heap.size rfl rfl 171 _ (sn r) rfl (infoSn r) HSR.out (sn_one _) ?_)
    rw [← HW4.out]
    go_wp2_with (first | (refine l_loadP rfl _ _ rfl (.pointer (some ⟨w3.heap.size,0,none⟩)) rfl (.agg (sn r)) (load_sn HR4.out) ?_) | (refine Rg.store_row rfl 171 _ _ rfl (g+1) rfl 171 (sn 0) (sn r) rfl HO4.out (infoSn r) HSR.out (sn_one _) ?_))
    refine bodyPost_ret (v := .agg (sn r)) (results_cell_row (P:=Tryz.prog) rfl _ _ (g+1) 171 (sn r) (0,0) _ rfl (setRow_heap _ _ _ _ 171 _ HO4.out) Tryz.underlying171 rfl (infoSn r)) rfl ⟨by rw [HE.out],Rg.below_setRow HB4.out (by have:=HG.out; omega) _⟩
end Sca
end Go.Proofs.YtfodadedkilgdaaGreatDoor
namespace Go.Proofs.YtfodadedkilgdaaGreatDoor
set_option linter.unusedVariables false
set_option linter.unusedSimpArgs false
open Go.RowKit Bits Mem Sha
namespace Sca
open Fld hiding SubAt SubAt.start sub_any infoE
def fdK (l:List Nat) (N:Nat):Nat→Nat
 | 0=>0
 | k+1=>(2*fdK l N k+(if bitW l (N-1-k) then 1 else 0))%Q
theorem Q_pos:0<Q:=by decide
theorem fdK_lt (l:List Nat) (N:Nat) : ∀ k,fdK l N k<Q
 | 0=>Q_pos
 | k+1=>Nat.mod_lt _ Q_pos
theorem fdK_val {l:List Nat} (h : ∀ x∈l,x<WB) {N:Nat} (hN:val l<2^N) : ∀ k,k≤N→fdK l N k=val l / 2^(N-k)%Q
 | 0,_=>by
   rw [Nat.sub_zero,Nat.div_eq_of_lt hN]
   rfl
 | k+1,hk=>by
   have ih:=fdK_val h hN k (by omega)
   have hb:=bitW_val h (N-1-k)
   rw [Nat.testBit_eq_decide_div_mod_eq] at hb
   have hd:val l / 2^(N-k)=val l / 2^(N-1-k) / 2:=by
    rw [Nat.div_div_eq_div_mul,show N-k=N-1-k+1 by omega,Nat.pow_succ]
   unfold fdK
   rw [ih,hd,hb,show N-(k+1)=N-1-k by omega]
   obtain ⟨m,hm⟩ : ∃ m,m=val l / 2^(N-1-k):=⟨_,rfl⟩
   rw [← hm]
   by_cases h1:m%2=1
   · rw [if_pos (by simpa using h1),Nat.add_mod,Nat.mul_mod,Nat.mod_mod,← Nat.mul_mod,← Nat.add_mod,show 2*(m / 2)+1=m by omega]
   · rw [if_neg (by simpa using h1),Nat.add_zero,Nat.mul_mod,Nat.mod_mod,← Nat.mul_mod,show 2*(m / 2)=m by omega]
theorem fold_val {l:List Nat} (h : ∀ x∈l,x<WB):fdK l (64*l.length) (64*l.length)=val l%Q:=by
 have hv:=val_lt l h
 rw [show (18446744073709551616:Nat)=2^64 by decide,← Nat.pow_mul] at hv
 have:=fdK_val h hv (64*l.length) (Nat.le_refl _)
 rwa [Nat.sub_self,Nat.pow_zero,Nat.div_one] at this
set_option maxRecDepth 100000 in
set_option maxHeartbeats 1000000 in
theorem fold_sn (l:List Nat) (hl : ∀ x∈l,x<WB) (hn:l.length≤100) (b c:Nat) (w:World) (hb:b<w.heap.size) (hc : ∀ j,j<l.length→w.cell? ⟨b,j,none⟩=some (.int .u64 ((l.getD j 0:Nat):Int))) (hO:OT w):Calls Tryz.prog 90 #[.slice (some ⟨b,0,none⟩) l.length c] w fun e w'=>e = .returned (.agg (sn (val l%Q)))∧Below w.heap.size w w':=by
 obtain ⟨w1,hw1⟩ : ∃ w1,w1=(w.alloc (.cells (sn 0) 171)).alloc (.cells (sn 0) 171):=⟨_,rfl⟩
 have hb1:Below w.heap.size w w1:=by rw [hw1]; exact ((Below.refl _ _).alloc (Nat.le_refl _) _).alloc (by simp) _
 have hr0:w1.heap[w.heap.size]? = some (.cells (sn 0) 171 (0,0)):=by rw [hw1]; exact (Rg.heap_alloc_past _ _ _ (by simp)).trans (Rg.heap_alloc_at w _ _ rfl)
 have hr1:w1.heap[w.heap.size+1]? = some (.cells (sn 0) 171 (0,0)):=by rw [hw1]; exact Rg.heap_alloc_at _ _ _ (by simp)
 have HB1:=Lib.hid hb1
 have HR0:=Lib.hid hr0
 have HR1:=Lib.hid hr1
 have HW1:=Lib.hid hw1
 have HO:=Lib.hid hO
 have HL:=Lib.hid hl
 have HC:Hid (∀ x,Below w.heap.size w x → ∀ j,j<l.length→x.cell? ⟨b,j,none⟩=some (.int .u64 ((l.getD j 0:Nat):Int))):=Lib.hid (fun x hx j hj=>Rc.cell_le hx hb (hc j hj))
 have HV:=Lib.hid (fold_val hl)
 obtain ⟨N,hN⟩ : ∃ N,N=l.length:=⟨_,rfl⟩
 have HNL:=Lib.hid hN
 rw [← hN] at hn HV HC ⊢
 have hwm:IntKind.i64.wrap ((N:Int)*64)=(N:Int)*64:=by rw [IntKind.wrap_i64]; omega
 have hwm1:IntKind.i64.wrap ((N:Int)*64-1)=(N:Int)*64-1:=by rw [IntKind.wrap_i64]; omega
 clear hb1 hr0 hr1 hw1 hO hl hc hN hb
 go_enter Tryz.func90,Tryz.ntmps90
 go_upto_region 2 with fail
 rw [sn_zero,← HW1.out]
 go_wp2_with fail
 obtain ⟨M,hM⟩ : ∃ M,M=64*N:=⟨_,rfl⟩
 rw [← hM] at HV
 have hNM:(N:Int)*64=(M:Int):=by omega
 obtain ⟨g,hg⟩ : ∃ g,g=w.heap.size:=⟨_,rfl⟩
 rw [← hg] at HR0 HR1 ⊢
 have HG:=Lib.hid hg
 have HMN:=Lib.hid hM
 rw [hNM]
 clear hM hNM hg hwm hwm1
 go_loopw [4] (fun v wr => ∃ k:Nat,k≤M∧v = .int .i64 ((M:Int)-1-(k:Int))∧Hid (wr.heap[g]? = some (.cells (sn 0) 171 (0,0)))∧Hid (wr.heap[g+1]? = some (.cells (sn (fdK l M k)) 171 (0,0)))∧Hid (Below w.heap.size w wr)) (fun v _=>(intOf v+1).toNat)
 case atStart=>exact ⟨0,by omega,by congr 1; omega,HR0,HR1,HB1⟩
 case round =>
  clear HR0 HR1
  obtain ⟨k,hk,rfl,HQ0,HQ1,HBE⟩:=hrel
  by_cases hlk:k<M
  ·have hMN:=HMN.out
   obtain ⟨i,hi⟩ : ∃ i,i=M-1-k:=⟨_,rfl⟩
   have hci:(M:Int)-1-(k:Int)=(i:Int):=by omega
   have hiN:i / 64<N:=by omega
   have q0:(0:Int)≤(i:Int):=by omega
   have q1:(0:Int)≤(i:Int) / 64:=by omega
   have q2:(i:Int) / 64<(N:Int):=by omega
   have q3:((i:Int) / 64).toNat=i / 64:=by omega
   have q4:(0:Int)≤(i:Int)%64:=by omega
   have q5:((i:Int)%64).toNat=i%64:=by omega
   obtain ⟨xw,hxw⟩ : ∃ xw,xw=l.getD (i / 64) 0:=⟨_,rfl⟩
   have hx4:xw<18446744073709551616:=by rw [hxw]; exact at_lt HL.out _
   have hbv:=bit_u64 xw (i%64) hx4
   have hst:fdK l M (k+1)=(2*fdK l M k+(if bitW l i then 1 else 0))%Q:=by rw [hi]; rfl
   have hbb:bitW l i=decide (xw / 2^(i%64)%2=1):=by rw [hxw]; rfl
   have hrl:=fdK_lt l M k
   obtain ⟨r,hr⟩ : ∃ r,r=fdK l M k:=⟨_,rfl⟩
   rw [← hr] at hst hrl HQ1
   obtain ⟨y,hy⟩ : ∃ y,y=xw / 2^(i%64)%2:=⟨_,rfl⟩
   rw [← hy] at hbv hbb
   have hy1:y≤1:=by omega
   have hif:(if bitW l i then 1 else 0)=y:=by
    rw [hbb]
    by_cases h1:y=1
    · rw [if_pos (by simpa using h1),h1]
    · rw [if_neg (by simpa using h1)]; omega
   rw [hif] at hst
   obtain ⟨r2,hr2⟩ : ∃ r2,r2=(2*r+y)%Q:=⟨_,rfl⟩
   have HT:Hid (∀ v,OT v→Calls Tryz.prog 139 #[.agg (sn r),.int .u64 (y:Int)] v fun e w'=>e = .returned (.agg (sn r2))∧Below v.heap.size v w'):=Lib.hid (fun v hv=>by rw [hr2]; exact twice_sn r y hrl hy1 v hv)
   have HST:Hid (fdK l M (k+1)=r2):=Lib.hid (by rw [hst,hr2])
   have HCX:Hid (∀ x',Below wr.heap.size wr x'→x'.cell? ⟨b,i / 64,none⟩=some (.int .u64 (xw:Int))):=Lib.hid (fun x' hx'=>by rw [hxw]; exact HC.out x' (HBE.out.trans (hx'.mono HBE.out.size)) _ hiN)
   have HSZ:Hid ((sn r).size=(sn r2).size):=Lib.hid (by simp only [sn_size])
   have HCI:=Lib.hid hci
   have HOW:=Lib.hid (HO.out.below HBE.out)
   rw [hci]
   clear hi hci hxw hx4 hst hbb hrl hr hy hy1 hif hr2 hlk hk hMN
   go_wp2_with fail
   refine Rc.region (wr.heap.size) 11 [Rc.F 10 (fun _ => .agg (sn r2)) (fun _ _ _=>True)] [] (by kernel_rfl) (Nat.le_refl _) (by kernel_rfl) ?_; intro p; simp only [List.take,List.drop]
   refine Rc.r_load rfl rfl _ _ rfl (.agg (sn r)) (fun x hx=>load_sn (row_in hx HQ1.out (lt_of_heap HQ1.out))) ?_; intro K hK; go_simp; refine hK _ ?_; clear hK K
   iterate 4 (refine Rc.rK rfl rfl ?_; intro K hK; apply Exists.intro; refine ⟨?_,?_⟩; (focus (intro x hx;  go_simp; (first | (fail) | ((try go_bits); (try go_simp); (try rfl))))); go_simp; refine hK _ ?_; clear hK K)
   refine Rc.r_load rfl rfl _ _ rfl (.int .u64 (xw:Int)) (fun x hx=>load_cellW (HCX.out x (Rc.undrew hx))) ?_; intro K hK; go_simp; refine hK _ ?_; clear hK K
   iterate 4 (refine Rc.rK rfl rfl ?_; intro K hK; apply Exists.intro; refine ⟨?_,?_⟩; (focus (intro x hx;  go_simp; (first | (fail) | ((try go_bits); (try go_simp); (try rfl))))); go_simp; refine hK _ ?_; clear hK K)
   refine Rc.fK rfl rfl rfl rfl ?_ ?_
   ·intro x Fs hx hle hg K hK
    have HC:=Lib.hid (HT.out x (HOW.out.below (Rc.undrew hx)))
    clear hx hg
    go_wp2_with fail
    refine HC.out.mono ?_
    rintro e x' ⟨rfl,hb⟩
    go_wp2_with fail
    exact hK Rc.dflt x' hb (fun _ _ _ _=>trivial)
   intro K hK; go_simp; refine hK _ ?_; clear hK K
   refine Rc.done fun x Fs hx hle hg => ?_
   have HRX:=Lib.hid (row_in hx HQ1.out (lt_of_heap HQ1.out))
   have HRX0:=Lib.hid (row_in hx HQ0.out (lt_of_heap HQ0.out))
   have HBX:=Lib.hid (HBE.out.trans ((Rc.undrew hx).mono HBE.out.size))
   clear hx hle hg HQ0 HQ1
   go_wp2_with (refine Rg.store_row rfl 171 _ _ rfl (g+1) rfl 171 (sn r) (sn r2) rfl HRX.out (infoSn r2) HSZ.out (sn_one _) ?_)
   refine NoPanic.normal ?_
   go_wp2_with fail
   exact ⟨⟨k+1,by have:=HCI.out; omega,by have:=HCI.out; congr 1; omega,Lib.hid ((setRow_otherE _ _ (by omega)).trans HRX0.out),Lib.hid (by rw [HST.out]; exact setRow_heap _ _ _ _ _ _ HRX.out),Lib.hid (Rg.below_setRow HBX.out (by have:=HG.out; omega) _)⟩,by simp only [intOf]; omega⟩
  ·obtain rfl:k=M:=by omega
   obtain ⟨r,hr⟩ : ∃ r,r=fdK l k k:=⟨_,rfl⟩
   rw [← hr] at HQ1 HV
   have hneg : ¬ (0:Int)≤(k:Int)-1-(k:Int):=by omega
   have HSZ:Hid ((sn 0).size=(sn r).size):=Lib.hid (by simp only [sn_size])
   clear hr hlk
   go_wp2_with (first | (refine l_loadP rfl _ _ rfl (.pointer (some ⟨g+1,0,none⟩)) rfl (.agg (sn r)) (load_sn HQ1.out) ?_) | (refine Rg.store_row rfl 171 _ _ rfl g rfl 171 (sn 0) (sn r) rfl HQ0.out (infoSn r) HSZ.out (sn_one _) ?_))
   refine bodyPost_ret (v := .agg (sn r)) (results_cell_row (P:=Tryz.prog) rfl _ _ g 171 (sn r) (0,0) _ rfl (setRow_heap _ _ _ _ 171 _ HQ0.out) Tryz.underlying171 rfl (infoSn r)) rfl ⟨by rw [HV.out],Rg.below_setRow HBE.out (by have:=HG.out; omega) _⟩
end Sca
end Go.Proofs.YtfodadedkilgdaaGreatDoor
namespace Go.Proofs.YtfodadedkilgdaaGreatDoor
set_option linter.unusedVariables false
set_option linter.unusedSimpArgs false
open Go.RowKit Bits Mem Sha
namespace Sca
open Fld hiding SubAt SubAt.start sub_any infoE
structure SbAt (w:World) (a:Nat) (L:List UInt8) (g h:Nat) (wr:World):Prop where
 ra:wr.heap[g]? = some (.cells (sn a) 171 (0,0))
 ro:wr.heap[g+1]? = some (.cells (bysA (List.replicate 32 0)) 22 (0,0))
 rb:wr.heap[h]? = some (.cells (bysA L) 22 (0,0))
 lt:g+1<h
 be:Below w.heap.size w wr
theorem SbAt.next {w wr:World} {a:Nat} {L:List UInt8} {g h:Nat} (hh:SbAt w a L g h wr) (hg:g=w.heap.size) (L':List UInt8):SbAt w a L' g h (wr.setRow h (bysA L')):=by
 have hl:=hh.lt
 exact ⟨(setRow_otherE _ _ (by omega)).trans hh.ra,(setRow_otherE _ _ (by omega)).trans hh.ro,setRow_heap _ _ _ _ _ _ hh.rb,hl,Rg.below_setRow hh.be (by omega) _⟩
set_option maxRecDepth 100000 in
set_option maxHeartbeats 1000000 in
theorem bytes_sn (m:Nat) (hm:m<W4) (w:World) (hF:OT w):Calls Tryz.prog 55 #[.agg (sn m)] w fun e w'=>e = .returned (.agg (bysA (leB (m%Q) 32)))∧Below w.heap.size w w':=by
 obtain ⟨a,ha⟩ : ∃ a,a=m%Q:=⟨_,rfl⟩
 have ha4:a<W4:=by rw [ha]; exact Nat.lt_trans (Nat.mod_lt _ Q_pos) Q_W4
 have HMA:=Lib.hid ha
 have HA4:=Lib.hid ha4
 have HM4:=Lib.hid hm
 rw [← ha]
 clear ha ha4 hm
 obtain ⟨w1,hw1⟩ : ∃ w1,w1=(w.alloc (.cells (sn m) 171)).alloc (.cells (bysA (List.replicate 32 0)) 22):=⟨_,rfl⟩
 have hb1:Below w.heap.size w w1:=by rw [hw1]; exact ((Below.refl _ _).alloc (Nat.le_refl _) _).alloc (by simp) _
 have hr0:w1.heap[w.heap.size]? = some (.cells (sn m) 171 (0,0)):=by rw [hw1]; exact (Rg.heap_alloc_past _ _ _ (by simp)).trans (Rg.heap_alloc_at w _ _ rfl)
 have hr1:w1.heap[w.heap.size+1]? = some (.cells (bysA (List.replicate 32 0)) 22 (0,0)):=by rw [hw1]; exact Rg.heap_alloc_at _ _ _ (by simp)
 have hs1:w1.heap.size=w.heap.size+1+1:=by rw [hw1]; simp
 have HF:=Lib.hid hF
 have HF1:=Lib.hid (hF.below hb1)
 have HB1:=Lib.hid hb1
 have HR0:=Lib.hid hr0
 have HR1:=Lib.hid hr1
 have HW1:=Lib.hid hw1
 have HS1:=Lib.hid hs1
 clear hb1 hr0 hr1 hw1 hF hs1
 go_enter Tryz.func55,Tryz.ntmps55
 go_upto_region 1 with fail
 rw [← bz32,← HW1.out]
 have HCF:Hid (Calls Tryz.prog 90 #[.slice (some ⟨w.heap.size,0,none⟩) 4 4] w1 fun e w'=>e = .returned (.agg (sn a))∧Below w1.heap.size w1 w'):=Lib.hid (by
  have h:=fold_sn (words m 4) (W4s.words m).2 (by rw [words_length]; decide) w.heap.size 4 w1 (by have:=HS1.out; omega) (fun j hj=>(cell_of_row _ _ _ _ _ _ HR0.out).trans (wN_get _ j hj)) HF1.out
  rw [words_length,val_words 4 m (by rw [W4_pow]; exact HM4.out),← HMA.out] at h
  exact h)
 go_wp2_with fail
 refine HCF.out.mono ?_
 rintro e w2 ⟨rfl,hb⟩
 obtain ⟨w3,hw3⟩ : ∃ w3,w3=w2.setRow w.heap.size (sn a):=⟨_,rfl⟩
 obtain ⟨w4,hw4⟩ : ∃ w4,w4=w3.alloc (.cells (bysA (List.replicate 32 0)) 22):=⟨_,rfl⟩
 have hs3:w3.heap.size=w2.heap.size:=by rw [hw3]; exact setRow_size _ _ _
 have hb4:Below w3.heap.size w3 w4:=by rw [hw4]; exact (Below.refl _ _).alloc (Nat.le_refl _) _
 have hb3:Below w.heap.size w w3:=by rw [hw3]; exact Rg.below_setRow (HB1.out.trans (hb.mono HB1.out.size)) (Nat.le_refl _) _
 have hr3:w3.heap[w.heap.size]? = some (.cells (sn a) 171 (0,0)):=by rw [hw3]; exact setRow_heap _ _ _ _ _ _ (Rp.row_le hb HR0.out)
 have hr31:w3.heap[w.heap.size+1]? = some (.cells (bysA (List.replicate 32 0)) 22 (0,0)):=by rw [hw3]; exact (setRow_otherE _ _ (by omega)).trans (Rp.row_le hb HR1.out)
 have HST:Hid (SbAt w a (leB a 0++List.replicate (32-0) 0) w.heap.size w2.heap.size w4):=Lib.hid ⟨Rp.row_le hb4 hr3,Rp.row_le hb4 hr31,by rw [hw4,← hs3]; exact heap_alloc_new w3 _,by have:=hb.size; have:=HS1.out; omega,hb3.trans (hb4.mono hb3.size)⟩
 have HR2:=Lib.hid (Rp.row_le hb HR0.out)
 have HW3:=Lib.hid hw3
 have HW4:=Lib.hid hw4
 have HS3:=Lib.hid hs3
 clear hb hw3 hw4 hs3 hb4 hb3 hr3 hr31
 go_upto_region 2 with (refine Rg.store_row rfl 171 _ _ rfl w.heap.size rfl 171 (sn m) (sn a) rfl HR2.out (infoSn a) (by simp only [sn_size]) (sn_one _) ?_)
 rw [← HW3.out]
 go_upto_region 3 with fail
 rw [← bz32,← HW4.out,HS3.out]
 obtain ⟨h,hh⟩ : ∃ h,h=w2.heap.size:=⟨_,rfl⟩
 rw [← hh] at HST ⊢
 obtain ⟨g,hg⟩ : ∃ g,g=w.heap.size:=⟨_,rfl⟩
 rw [← hg] at HST ⊢
 have HG:=Lib.hid hg
 clear hg hh HW3 HW4 HS3
 go_wp2_with fail
 go_loopw [7] (fun v wr => ∃ k:Nat,k≤32∧v = .int .i64 (k:Int)∧Hid (SbAt w a (leB a k++List.replicate (32-k) 0) g h wr)) (fun v _=>(32-intOf v).toNat)
 case atStart=>exact ⟨0,by omega,rfl,HST⟩
 case round =>
  clear HST
  obtain ⟨k,hk,rfl,HQ⟩:=hrel
  by_cases hlk:k<32
  ·have q1:(k:Int)<32:=by omega
   have q2:(0:Int)≤(k:Int) / 8:=by omega
   have q3:(k:Int) / 8<4:=by omega
   have q4:((k:Int) / 8).toNat=k / 8:=by omega
   have q5:(0:Int)≤(k:Int)%8:=by omega
   have q6:IntKind.i64.wrap (8*((k:Int)%8))=8*((k:Int)%8):=by rw [IntKind.wrap_i64]; omega
   have q7:(0:Int)≤8*((k:Int)%8):=by omega
   have q8:(8*((k:Int)%8)).toNat=8*(k%8):=by omega
   have hwb:=word_byte (words a 4) (W4s.words _) k
   rw [val_words 4 a (by rw [W4_pow]; exact HA4.out)] at hwb
   obtain ⟨d,hd⟩ : ∃ d,d=(words a 4).getD (k / 8) 0:=⟨_,rfl⟩
   have hc:wr.cell? ⟨g,k / 8,none⟩=some (.int .u64 (d:Int)):=(cell_of_row _ _ _ _ _ _ HQ.out.ra).trans (by rw [hd]; exact wN_get _ _ (by rw [words_length]; omega))
   rw [← hd] at hwb
   obtain ⟨y,hy⟩ : ∃ y,y=UInt8.ofNat (a / 256^k%256):=⟨_,rfl⟩
   have hyn:(y.toNat:Int)=((d / 2^(8*(k%8))%256:Nat):Int):=by
    rw [hy,hwb,UInt8.toNat_ofNat']
    omega
   have hset:=leB_set a k hlk
   rw [← hy] at hset
   obtain ⟨L,hL⟩ : ∃ L,L=leB a k++List.replicate (32-k) 0:=⟨_,rfl⟩
   have hLl:L.length=32:=by rw [hL]; simp [leB_length]; omega
   rw [← hL] at HQ hset
   have q9:IntKind.u8.wrap ((d:Int) / (2:Int)^(8*(k%8)))=(y.toNat:Int):=by
    rw [hyn,IntKind.wrap_u8]
    have:(d:Int) / (2:Int)^(8*(k%8))=((d / 2^(8*(k%8)):Nat):Int):=by simp
    rw [this]
    omega
   have hcb:wr.cell? ⟨h,k,none⟩=some (.int .u8 ((bt L k).toNat:Int)):=by
    refine (cell_of_row _ _ _ _ _ _ HQ.out.rb).trans ?_
    unfold bysA bt
    simp [bys,List.getD,show k<L.length by omega]
   have hfz:wr.frozen? ⟨h,k,none⟩=false:=frozen_of_row _ _ _ _ _ HQ.out.rb
   obtain ⟨wn,hwn⟩ : ∃ wn,wn=wr.setCell ⟨h,k,none⟩ (.int .u8 (y.toNat:Int)):=⟨_,rfl⟩
   have HQN:Hid (SbAt w a (leB a (k+1)++List.replicate (32-(k+1)) 0) g h wn):=Lib.hid (by
    rw [← hset,hwn,setCell_eq_setRow wr h k _ _ _ _ HQ.out.rb,bysA_setU]
    exact HQ.out.next HG.out _)
   have HWN:=Lib.hid hwn
   clear hwb hd hy hyn hset hL hLl hwn HQ
   go_wp2_with fail
   exact ⟨⟨k+1,by omega,by congr 1,by rw [← HWN.out]; exact HQN⟩,by simp only [intOf]; omega⟩
  ·obtain rfl:k=32:=by omega
   have hn : ¬ ((32:Nat):Int)<32:=by omega
   obtain ⟨L,hL⟩ : ∃ L,L=leB a 32++List.replicate (32-32) 0:=⟨_,rfl⟩
   have hLe:L=leB a 32:=by rw [hL,Nat.sub_self,List.replicate_zero,List.append_nil]
   rw [← hL] at HQ
   have hLl:L.length=32:=by rw [hLe,leB_length]
   have HLE:=Lib.hid hLe
   have HIL:=Lib.hid (info32E L hLl)
   have HSZ:Hid ((bysA (List.replicate 32 0)).size=(bysA L).size):=Lib.hid (by rw [bysA_size,bysA_size,hLl]; rfl)
   clear hL hLe hLl
   go_wp2_with (first | (refine wpList_load_row rfl 22 _ rfl h rfl 22 (bysA L) (0,0) _ HQ.out.rb Tryz.underlying22 rfl HIL.out ?_) | (refine Rg.store_row rfl 22 _ _ rfl (g+1) rfl 22 (bysA (List.replicate 32 0)) (bysA L) rfl HQ.out.ro HIL.out HSZ.out (bysA_one _) ?_))
   refine bodyPost_ret (v := .agg (bysA L)) (results_cell_row (P:=Tryz.prog) rfl _ _ (g+1) 22 (bysA L) (0,0) _ rfl (setRow_heap _ _ _ _ 22 _ HQ.out.ro) Tryz.underlying22 rfl HIL.out) rfl ⟨by rw [HLE.out],Rg.below_setRow HQ.out.be (by have:=HG.out; omega) _⟩
end Sca
end Go.Proofs.YtfodadedkilgdaaGreatDoor

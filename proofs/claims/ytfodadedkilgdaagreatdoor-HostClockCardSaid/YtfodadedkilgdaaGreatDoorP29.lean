/- A part of the proof. Plain; no condition. -/
import Derived.Test.YtfodadedkilgdaaGreatDoorP28
import Derived.Test.YtfodadedkilgdaaGreatDoorP24
import Derived.Deep.CutBlock
namespace Go.Proofs.YtfodadedkilgdaaGreatDoor
set_option linter.unusedVariables false
set_option linter.unusedSimpArgs false
open Go.RowKit Bits Mem Sha
namespace Fld
open Ed (FP fpow)
theorem bit_u64 (m e:Nat) (hm:m<18446744073709551616):bits .and .u64 ((m:Int) / (2:Int)^e) 1=((m / 2^e%2:Nat):Int):=by
 have h1:=Nat.div_le_self m (2^e)
 have e1:(m:Int) / (2:Int)^e=((m / 2^e:Nat):Int):=by simp
 rw [e1]
 have:=u64_andN (m / 2^e) 1 (by omega) (by omega)
 rw [Nat.and_one_is_mod] at this
 exact this
def bitW (l:List Nat) (i:Nat):Bool:=decide (l.getD (i / 64) 0 / 2^(i%64)%2=1)
def powK (a:FP) (l:List Nat):Nat→FP
 | 0=>1
 | k+1=>if bitW l (255-k) then powK a l k*powK a l k*a else powK a l k*powK a l k
theorem word_val : ∀ (l:List Nat) (q:Nat),(∀ x∈l,x<WB)→l.getD q 0=val l / WB^q%WB
 | [],q,_=>by simp [val]
 | x::l,0,h=>by
   have:=h x (by simp)
   rw [List.getD_cons_zero,Nat.pow_zero,Nat.div_one,val_cons]
   unfold WB at *
   omega
 | x::l,q+1,h=>by
   have hx:=h x (by simp)
   rw [List.getD_cons_succ,word_val l q (fun y hy=>h y (by simp [hy])),val_cons,Nat.pow_succ,Nat.mul_comm (WB^q) WB,← Nat.div_div_eq_div_mul]
   have:(x+WB*val l) / WB=val l:=by unfold WB at *; omega
   rw [this]
theorem bitW_val {l:List Nat} (h : ∀ x∈l,x<WB) (i:Nat):bitW l i=(val l).testBit i:=by
 unfold bitW
 rw [word_val l _ h,← Nat.testBit_eq_decide_div_mod_eq,show WB=2^64 by decide,Nat.testBit_mod_two_pow,← Nat.pow_mul,Nat.testBit_div_two_pow,show i%64+64*(i / 64)=i by omega]
 simp [Nat.mod_lt i (show 64>0 by decide)]
theorem fpow_zero (a:FP):fpow a 0=1:=by
 apply Fin.ext
 show a.val^0%P=_
 rfl
theorem fpow_dbl (a:FP) (e:Nat):fpow a e*fpow a e=fpow a (2*e):=by
 apply Fin.ext
 rw [Fin.val_mul]
 show a.val^e%P*(a.val^e%P)%P=a.val^(2*e)%P
 rw [← Nat.mul_mod,← Nat.pow_add,Nat.two_mul]
theorem fpow_suc (a:FP) (e:Nat):fpow a e*a=fpow a (e+1):=by
 apply Fin.ext
 rw [Fin.val_mul]
 show a.val^e%P*a.val%P=a.val^(e+1)%P
 rw [Nat.mul_mod,Nat.mod_mod,← Nat.mul_mod,Nat.pow_succ]
theorem powK_pow (a:FP) {l:List Nat} (h:W4s l) : ∀ k,k≤256→powK a l k=fpow a (val l / 2^(256-k))
 | 0,_=>by
   have:=val_lt l h.2
   rw [h.1] at this
   rw [Nat.div_eq_of_lt (show val l<2^(256-0) from this),fpow_zero]
   rfl
 | k+1,hk=>by
   have ih:=powK_pow a h k (by omega)
   have hb:=bitW_val h.2 (255-k)
   rw [Nat.testBit_eq_decide_div_mod_eq] at hb
   have hd:val l / 2^(256-k)=val l / 2^(255-k) / 2:=by
    rw [Nat.div_div_eq_div_mul,show 256-k=255-k+1 by omega,Nat.pow_succ]
   unfold powK
   rw [ih,hd,show 256-(k+1)=255-k by omega,fpow_dbl,fpow_suc,hb]
   obtain ⟨m,hm⟩ : ∃ m,m=val l / 2^(255-k):=⟨_,rfl⟩
   rw [← hm]
   by_cases h1:m%2=1
   · rw [if_pos (by simpa using h1),show 2*(m / 2)+1=m by omega]
   · rw [if_neg (by simpa using h1),show 2*(m / 2)=m by omega]
theorem pow_all (a:FP) {l:List Nat} (h:W4s l):powK a l 256=fpow a (val l):=by
 have:=powK_pow a h 256 (Nat.le_refl _)
 rwa [Nat.sub_self,Nat.pow_zero,Nat.div_one] at this
theorem el_one:(#[.int .u64 1,.int .u64 0,.int .u64 0,.int .u64 0]:Array Value)=el 1:=by kernel_rfl
structure PwAt (w:World) (a r:FP) (L:List Nat) (g h:Nat) (wr:World):Prop where
 rp:wr.heap[g]? = some (.cells (el a) 173 (0,0))
 rn:wr.heap[g+1]? = some (.cells (wN L) 170 (0,0))
 ro:wr.heap[g+1+1]? = some (.cells (el 0) 173 (0,0))
 rr:wr.heap[h]? = some (.cells (el r) 173 (0,0))
 lt:g+1+1<h
 be:Below w.heap.size w wr
theorem PwAt.next {w wr:World} {p r:FP} {L:List Nat} {g h:Nat} (hh:PwAt w p r L g h wr) (hg:g=w.heap.size) {x:World} (hb:Below wr.heap.size wr x) (r':FP):PwAt w p r' L g h (x.setRow h (el r')):=by
 have hl:=hh.lt
 have hbe:=hh.be.trans (hb.mono hh.be.size)
 exact ⟨(setRow_otherE _ _ (by omega)).trans (Rp.row_le hb hh.rp),(setRow_otherE _ _ (by omega)).trans (Rp.row_le hb hh.rn),(setRow_otherE _ _ (by omega)).trans (Rp.row_le hb hh.ro),setRow_heap _ _ _ _ _ _ (Rp.row_le hb hh.rr),hl,Rg.below_setRow hbe (by omega) _⟩
set_option maxRecDepth 100000 in
set_option maxHeartbeats 2000000 in
theorem pow_el (p:FP) (L:List Nat) (hL:W4s L) (w:World) (hF:FT w):Calls Tryz.prog 140 #[.agg (el p),.agg (wN L)] w fun e w'=>e = .returned (.agg (el (powK p L 256)))∧Below w.heap.size w w':=by
 obtain ⟨w1,hw1⟩ : ∃ w1,w1=((w.alloc (.cells (el p) 173)).alloc (.cells (wN L) 170)).alloc (.cells (el 0) 173):=⟨_,rfl⟩
 have hb1:Below w.heap.size w w1:=by rw [hw1]; exact (((Below.refl _ _).alloc (Nat.le_refl _) _).alloc (by simp) _).alloc (by simp; try omega) _
 have hr0:w1.heap[w.heap.size]? = some (.cells (el p) 173 (0,0)):=by rw [hw1]; exact (Rg.heap_alloc_past _ _ _ (by simp; try omega)).trans ((Rg.heap_alloc_past _ _ _ (by simp)).trans (Rg.heap_alloc_at w _ _ rfl))
 have hr1:w1.heap[w.heap.size+1]? = some (.cells (wN L) 170 (0,0)):=by rw [hw1]; exact (Rg.heap_alloc_past _ _ _ (by simp)).trans (Rg.heap_alloc_at _ _ _ (by simp))
 have hr2:w1.heap[w.heap.size+1+1]? = some (.cells (el 0) 173 (0,0)):=by rw [hw1]; exact Rg.heap_alloc_at _ _ _ (by simp)
 have hs1:w1.heap.size=w.heap.size+1+1+1:=by rw [hw1]; simp
 have HF1:=Lib.hid (hF.below hb1)
 have HB1:=Lib.hid hb1
 have HR0:=Lib.hid hr0
 have HR1:=Lib.hid hr1
 have HR2:=Lib.hid hr2
 have HW1:=Lib.hid hw1
 have HL:=Lib.hid hL
 have HF:=Lib.hid hF
 have HS1:=Lib.hid hs1
 clear hb1 hr0 hr1 hr2 hw1 hF hL hs1
 have HI1:Hid ((Tryz.prog.info? 173).map (·.size)=some (#[.int .u64 1,.int .u64 0,.int .u64 0,.int .u64 0]:Array Value).size):=Lib.hid (by rw [el_one]; exact infoEl 1)
 have HO1:Hid ((#[.int .u64 1,.int .u64 0,.int .u64 0,.int .u64 0]:Array Value).all (·.oneCell')=true):=Lib.hid (wN_one [1,0,0,0])
 obtain ⟨w3,hw3⟩ : ∃ w3,w3=w1.alloc (.cells (el 1) 173):=⟨_,rfl⟩
 have hb3:Below w1.heap.size w1 w3:=by rw [hw3]; exact (Below.refl _ _).alloc (Nat.le_refl _) _
 have hr3:w3.heap[w1.heap.size]? = some (.cells (el 1) 173 (0,0)):=by rw [hw3]; exact heap_alloc_new w1 _
 have HT5:Hid (PwAt w p 1 L w.heap.size w1.heap.size w3):=Lib.hid ⟨Rp.row_le hb3 HR0.out,Rp.row_le hb3 HR1.out,Rp.row_le hb3 HR2.out,hr3,by have:=HS1.out; omega,HB1.out.trans (hb3.mono HB1.out.size)⟩
 have HW3:=Lib.hid hw3
 clear hb3 hr3 hw3
 go_enter Tryz.func140,Tryz.ntmps140
 go_upto_region 1 with fail
 rw [el_zero,← HW1.out]
 go_upto_region 2 with (refine Rg.store_row_new rfl 173 _ _ rfl w1.heap.size rfl rfl 173 _ #[.int .u64 1,.int .u64 0,.int .u64 0,.int .u64 0] rfl HI1.out rfl HO1.out ?_)
 rw [el_one,← HW3.out]
 obtain ⟨h,hh⟩ : ∃ h,h=w1.heap.size:=⟨_,rfl⟩
 rw [← hh] at HT5 ⊢
 obtain ⟨g,hg⟩ : ∃ g,g=w.heap.size:=⟨_,rfl⟩
 rw [← hg] at HT5 ⊢
 have HG:=Lib.hid hg
 clear hg hh HW3
 go_wp2_with fail
 go_loopw [6] (fun v wr => ∃ k:Nat,k≤256∧v = .int .i64 (255-(k:Int))∧Hid (PwAt w p (powK p L k) L g h wr)) (fun v _=>(intOf v+1).toNat)
 case atStart=>exact ⟨0,by omega,rfl,HT5⟩
 case round =>
  clear HT5
  obtain ⟨k,hk,rfl,HQ⟩:=hrel
  by_cases hlk:k<256
  ·obtain ⟨i,hi⟩ : ∃ i,i=255-k:=⟨_,rfl⟩
   have hci:(255:Int)-(k:Int)=(i:Int):=by omega
   have hi8:i<256:=by omega
   have q0:(0:Int)≤(i:Int):=by omega
   have q1:(0:Int)≤(i:Int) / 64:=by omega
   have q2:(i:Int) / 64<4:=by omega
   have q3:((i:Int) / 64).toNat=i / 64:=by omega
   have q4:(0:Int)≤(i:Int)%64:=by omega
   have q5:((i:Int)%64).toNat=i%64:=by omega
   have hx4:=HL.out.at (i / 64)
   have hc:wr.cell? ⟨g+1,i / 64,none⟩=some (.int .u64 ((L.getD (i / 64) 0:Nat):Int)):=(cell_of_row _ _ _ _ _ _ HQ.out.rn).trans (wN_get L _ (by rw [HL.out.1]; omega))
   have hst:powK p L (k+1)=if bitW L i then powK p L k*powK p L k*p else powK p L k*powK p L k:=by rw [hi]; rfl
   obtain ⟨R,hR⟩ : ∃ R,R=powK p L k:=⟨_,rfl⟩
   rw [← hR] at HQ hst
   obtain ⟨x,hx⟩ : ∃ x,x=L.getD (i / 64) 0:=⟨_,rfl⟩
   have hbb:bitW L i=decide (x / 2^(i%64)%2=1):=by rw [hx]; rfl
   rw [← hx] at hc hx4
   rw [hci]
   obtain ⟨R2,hR2⟩ : ∃ R2,R2=R*R:=⟨_,rfl⟩
   rw [← hR2] at hst
   have HM:Hid (∀ y,FT y→Calls Tryz.prog 93 #[.agg (el R),.agg (el R)] y fun e w'=>e = .returned (.agg (el R2))∧Below y.heap.size y w'):=Lib.hid (fun y hy=>by rw [hR2]; exact mul_el R R y hy)
   have HST:=Lib.hid hst
   have HBB:=Lib.hid hbb
   have HCI:=Lib.hid hci
   clear hR hx hst hbb hi hci hlk hk hR2
   go_wp2_with (refine l_loadP rfl _ _ rfl (.pointer (some ⟨h,0,none⟩)) rfl (.agg (el R)) (load_el HQ.out.rr) ?_)
   refine (HM.out wr (HF.out.below HQ.out.be)).mono ?_
   rintro e w6 ⟨rfl,hb⟩
   obtain ⟨w7,hw7⟩ : ∃ w7,w7=w6.setRow h (el R2):=⟨_,rfl⟩
   have HQ7:Hid (PwAt w p R2 L g h w7):=Lib.hid (by rw [hw7]; exact HQ.out.next HG.out hb R2)
   have HR6:=Lib.hid (Rp.row_le hb HQ.out.rr)
   have HW7:=Lib.hid hw7
   have HSR:Hid ((el R).size=(el R2).size):=Lib.hid (by rw [el_size,el_size])
   have hc7:w7.cell? ⟨g+1,i / 64,none⟩=some (.int .u64 (x:Int)):=by
    have h1:=(cell_of_row _ _ _ _ _ _ HQ.out.rn).symm.trans hc
    exact (cell_of_row _ _ _ _ _ _ HQ7.out.rn).trans h1
   clear hw7 hb hc
   go_upto_region 6 with (refine Rg.store_row rfl 173 _ _ rfl h rfl 173 (el R) (el R2) rfl HR6.out (infoEl R2) HSR.out (wN_one _) ?_)
   rw [← HW7.out]
   clear HW7 HR6 HSR HQ
   have hbv:=bit_u64 x (i%64) hx4
   have HBE:=Lib.hid (HF.out.below HQ7.out.be)
   obtain ⟨b,hb⟩ : ∃ b,b=x / 2^(i%64)%2:=⟨_,rfl⟩
   rw [← hb] at hbv HBB
   have hb2:b<2:=by omega
   clear hb
   by_cases hb1:b=1
   ·subst hb1
    have HSN:Hid (powK p L (k+1)=R2*p):=Lib.hid (by rw [HST.out,HBB.out]; rfl)
    obtain ⟨R3,hR3⟩ : ∃ R3,R3=R2*p:=⟨_,rfl⟩
    rw [← hR3] at HSN
    have HA:Hid (Calls Tryz.prog 93 #[.agg (el R2),.agg (el p)] w7 fun e w'=>e = .returned (.agg (el R3))∧Below w7.heap.size w7 w'):=Lib.hid (by rw [hR3]; exact mul_el R2 p w7 HBE.out)
    have HS3:Hid ((el R2).size=(el R3).size):=Lib.hid (by rw [el_size,el_size])
    clear hR3
    go_wp2_with (first | (refine l_loadP rfl _ _ rfl (.pointer (some ⟨h,0,none⟩)) rfl (.agg (el R2)) (load_el HQ7.out.rr) ?_) | (refine l_loadP rfl _ _ rfl (.pointer (some ⟨g,0,none⟩)) rfl (.agg (el p)) (load_el HQ7.out.rp) ?_))
    refine HA.out.mono ?_
    rintro e w8 ⟨rfl,hb8⟩
    have HQ9:=Lib.hid (HQ7.out.next HG.out hb8 R3)
    have HR8:=Lib.hid (Rp.row_le hb8 HQ7.out.rr)
    clear hb8
    go_wp2_with (refine Rg.store_row rfl 173 _ _ rfl h rfl 173 (el R2) (el R3) rfl HR8.out (infoEl R3) HS3.out (wN_one _) ?_)
    exact ⟨⟨k+1,by have:=HCI.out; omega,by have:=HCI.out; congr 1; omega,by rw [HSN.out]; exact HQ9⟩,by simp only [intOf]; omega⟩
   ·obtain rfl:b=0:=by omega
    have HSN:Hid (powK p L (k+1)=R2):=Lib.hid (by rw [HST.out,HBB.out]; rfl)
    go_wp2_with fail
    exact ⟨⟨k+1,by have:=HCI.out; omega,by have:=HCI.out; congr 1; omega,by rw [HSN.out]; exact HQ7⟩,by simp only [intOf]; omega⟩
  ·obtain rfl:k=256:=by omega
   obtain ⟨R,hR⟩ : ∃ R,R=powK p L 256:=⟨_,rfl⟩
   rw [← hR] at HQ
   have HRE:=Lib.hid hR
   have HSR:Hid ((el 0).size=(el R).size):=Lib.hid (by rw [el_size,el_size])
   clear hR hlk
   go_wp2_with (first | (refine l_loadP rfl _ _ rfl (.pointer (some ⟨h,0,none⟩)) rfl (.agg (el R)) (load_el HQ.out.rr) ?_) | (refine Rg.store_row rfl 173 _ _ rfl (g+1+1) rfl 173 (el 0) (el R) rfl HQ.out.ro (infoEl R) HSR.out (wN_one _) ?_))
   refine bodyPost_ret (v := .agg (el R)) (results_cell_row (P:=Tryz.prog) rfl _ _ (g+1+1) 173 (el R) (0,0) _ rfl (setRow_heap _ _ _ _ 173 _ HQ.out.ro) Tryz.underlying173 rfl (infoEl R)) rfl ⟨by rw [HRE.out],Rg.below_setRow HQ.out.be (by have:=HG.out; omega) _⟩
theorem pow_fp (a:FP) (n:Nat) (hn:n<W4) (w:World) (hF:FT w):Calls Tryz.prog 140 #[.agg (el a),.agg (wN (words n 4))] w fun e w'=>e = .returned (.agg (el (fpow a n)))∧Below w.heap.size w w':=by
 have h:=pow_el a (words n 4) (W4s.words n) w hF
 rw [pow_all a (W4s.words n),val_words 4 n (by rw [W4_pow]; exact hn)] at h
 exact h
end Fld
end Go.Proofs.YtfodadedkilgdaaGreatDoor
namespace Go.Proofs.YtfodadedkilgdaaGreatDoor
open Go.RowKit
namespace Fld
open Ab Un
open Ed (FP fpow)
def rootN:Nat:=7237005577332262213973186563042994240829374041602535252466099000494570602493
theorem root_arr:(#[.int .u64 18446744073709551613,.int .u64 18446744073709551615,.int .u64 18446744073709551615,.int .u64 1152921504606846975]:Array Value)=wN (words rootN 4):=by kernel_rfl
theorem pow_root (a:FP) (w:World) (hF:FT w):Calls Tryz.prog 140 #[.agg (el a),.agg #[.int .u64 18446744073709551613,.int .u64 18446744073709551615,.int .u64 18446744073709551615,.int .u64 1152921504606846975]] w fun e w'=>e = .returned (.agg (el (fpow a rootN)))∧Below w.heap.size w w':=by
 rw [root_arr]
 exact pow_fp a rootN (by decide) w hF
theorem inv_arr:(#[.int .u64 18446744073709551595,.int .u64 18446744073709551615,.int .u64 18446744073709551615,.int .u64 9223372036854775807]:Array Value)=wN (words (P-2) 4):=by kernel_rfl
theorem pow_inv (a:FP) (w:World) (hF:FT w):Calls Tryz.prog 140 #[.agg (el a),.agg #[.int .u64 18446744073709551595,.int .u64 18446744073709551615,.int .u64 18446744073709551615,.int .u64 9223372036854775807]] w fun e w'=>e = .returned (.agg (el (fpow a (P-2))))∧Below w.heap.size w w':=by
 rw [inv_arr]
 exact pow_fp a (P-2) (by decide) w hF
def rootE (u x w:FP):FP×Bool:=if w=u then (x,true) else if w = -u then (x*Ed.iC,true) else (0,false)
def rootX (u v:FP):FP:=u*(v*v*v)*fpow (u*(v*v*v*(v*v*v)*v)) rootN
def rootV (u v:FP):FP×Bool:=rootE u (rootX u v) (v*(rootX u v*rootX u v))
def cRt:List K := [.ci .u64 18446744073709551613,.ci .u64 18446744073709551615,.ci .u64 18446744073709551615,.ci .u64 1152921504606846975]
def cIv:List K := [.ci .u64 18446744073709551595,.ci .u64 18446744073709551615,.ci .u64 18446744073709551615,.ci .u64 9223372036854775807]
theorem powOk (ρ:List U) (gl:List (Nat×List Tm)) (c:List K) (f:FP→FP) (h : ∀ a y,FT y→Calls Tryz.prog 140 #[.agg (el a),.agg (c.map kval).toArray] y fun e w'=>e = .returned (.agg (el (f a)))∧Below y.heap.size y w') {w:World} (hF:FT w) (ht:TbOk (fldR ρ [(5,f1 f)]) w gl):(fldY gl [⟨140,[.ag [5],.z c],.ag [8]⟩]).Ok (fldR ρ [(5,f1 f)]) w :=
 fldOk hF ⟨f1_is _,trivial⟩ ht ⟨fun y hb a=>h a y (hF.below hb),trivial⟩
theorem inv_gen (f:FP→FP) (h : ∀ a y,FT y→Calls Tryz.prog 140 #[.agg (el a),.agg (cIv.map kval).toArray] y fun e w'=>e = .returned (.agg (el (f a)))∧Below y.heap.size y w') (a:FP) (w:World) (hF:FT w):Calls Tryz.prog 91 #[.agg (el a)] w fun e w'=>e = .returned (.agg (el (f a)))∧Below w.heap.size w w' :=
 Ty.one (powOk [.fp a] [] cIv f h hF trivial) Tryz.func91 [.ag [.at 0]] (by kernel_rfl)
theorem inv_el (a:FP) (w:World) (hF:FT w):Calls Tryz.prog 91 #[.agg (el a)] w fun e w'=>e = .returned (.agg (el (fpow a (P-2))))∧Below w.heap.size w w' :=
 inv_gen (fpow · (P-2)) (fun a y h=>pow_inv a y h) a w hF
theorem root_gen (f:FP→FP) (h : ∀ a y,FT y→Calls Tryz.prog 140 #[.agg (el a),.agg (cRt.map kval).toArray] y fun e w'=>e = .returned (.agg (el (f a)))∧Below y.heap.size y w') (u v X W ic:FP) (hX:X=u*(v*v*v)*f (u*(v*v*v*(v*v*v)*v))) (hW:W=v*(X*X)) (w:World) (hF:FT w) (hi:GRow w 11 (el ic)):Calls Tryz.prog 243 #[.agg (el u),.agg (el v)] w fun e w'=>e = .returned (if W=u then .tuple #[.agg (el X),.bool true] else if W = -u then .tuple #[.agg (el (X*ic)),.bool true] else .tuple #[.agg (el 0),.bool false])∧Below w.heap.size w w':=by
 subst hX hW
 exact (Ty.runs (powOk [.fp u,.fp v,.fp ic] [(11,[.at 2])] cRt f h hF ⟨hi,trivial⟩) Tryz.func243 [.ag [.at 0],.ag [.at 1]]
  (L := [⟨[(decide (v*(u*(v*v*v)*f (u*(v*v*v*(v*v*v)*v))*(u*(v*v*v)*f (u*(v*v*v*(v*v*v)*v))))=u),true)],fun _ => .tuple #[.agg (el (u*(v*v*v)*f (u*(v*v*v*(v*v*v)*v)))),.bool true],none⟩,⟨[(decide (v*(u*(v*v*v)*f (u*(v*v*v*(v*v*v)*v))*(u*(v*v*v)*f (u*(v*v*v*(v*v*v)*v)))) = -u),true),(decide (v*(u*(v*v*v)*f (u*(v*v*v*(v*v*v)*v))*(u*(v*v*v)*f (u*(v*v*v*(v*v*v)*v))))=u),false)],fun _ => .tuple #[.agg (el (u*(v*v*v)*f (u*(v*v*v*(v*v*v)*v))*ic)),.bool true],none⟩,⟨[(decide (v*(u*(v*v*v)*f (u*(v*v*v*(v*v*v)*v))*(u*(v*v*v)*f (u*(v*v*v*(v*v*v)*v)))) = -u),false),(decide (v*(u*(v*v*v)*f (u*(v*v*v*(v*v*v)*v))*(u*(v*v*v)*f (u*(v*v*v*(v*v*v)*v))))=u),false)],fun _ => .tuple #[.agg (el 0),.bool false],none⟩]) (by kernel_rfl)).mono fun e w' h=>⟨by
  rcases h.1 with ⟨⟨h1,_⟩,h2⟩ | ⟨⟨h1,h3,_⟩,h2⟩ | ⟨⟨h1,h3,_⟩,h2⟩
  · rw [if_pos (of_decide_eq_true h1)]; exact h2
  · rw [if_neg (of_decide_eq_false h3),if_pos (of_decide_eq_true h1)]; exact h2
  · rw [if_neg (of_decide_eq_false h3),if_neg (of_decide_eq_false h1)]; exact h2,h.2⟩
theorem root_el (u v:FP) (w:World) (hF:ET w):Calls Tryz.prog 243 #[.agg (el u),.agg (el v)] w fun e w'=>e = .returned (.tuple #[.agg (el (rootV u v).1),.bool (rootV u v).2])∧Below w.heap.size w w':=by
 have:=root_gen (fpow · rootN) (fun a y h=>pow_root a y h) u v (rootX u v) _ Ed.iC rfl rfl w hF.ft hF.gi
 unfold rootV rootE
 split
 · rename_i h; rwa [if_pos h] at this
 ·rename_i h; rw [if_neg h] at this; split
  · rename_i h; rwa [if_pos h] at this
  · rename_i h; rwa [if_neg h] at this
end Fld
end Go.Proofs.YtfodadedkilgdaaGreatDoor
namespace Go.Proofs.YtfodadedkilgdaaGreatDoor
set_option linter.unusedVariables false
set_option linter.unusedSimpArgs false
open Go.RowKit Bits Mem Sha
namespace Fld
open Ed (FP fpow)
def leN:List UInt8→Nat
 | []=>0
 | x::l=>x.toNat+256*leN l
theorem leN_lt : ∀ l:List UInt8,leN l<256^l.length
 | []=>by decide
 | x::l=>by
   have h1:=leN_lt l
   have h2:=x.toNat_lt
   rw [List.length_cons,Nat.pow_succ]
   unfold leN
   omega
theorem leN_take : ∀ (l:List UInt8) (k:Nat),k<l.length→leN (l.take (k+1))=leN (l.take k)+(bt l k).toNat*256^k
 | [],k,h=>by simp at h
 | x::l,0,_=>by simp [leN,bt]
 | x::l,k+1,h=>by
   have ih:=leN_take l k (by simpa using h)
   rw [List.take_succ_cons,List.take_succ_cons,leN,leN,ih,show bt (x::l) (k+1)=bt l k from rfl,Nat.pow_succ,Nat.mul_add,← Nat.mul_assoc,Nat.mul_comm _ 256,Nat.mul_comm 256 (bt l k).toNat,Nat.mul_assoc (bt l k).toNat]
   rw [Nat.mul_comm 256 (256^k),Nat.add_assoc]
theorem pow256 (k:Nat):256^k=WB^(k / 8)*256^(k%8):=by
 rw [show WB=256^8 by decide,← Nat.pow_mul,← Nat.pow_add,show 8*(k / 8)+k%8=k by omega]
theorem pow2_8 (k:Nat):2^(8*k)=256^k:=by rw [Nat.pow_mul]
theorem of_step {D:List Nat} (hD:W4s D) {k x:Nat} (hk:k<32) (hx:x<256) (hv:val D<256^k) :
 D.getD (k / 8) 0 ||| x*2^(8*(k%8))<WB∧val (D.set (k / 8) (D.getD (k / 8) 0 ||| x*2^(8*(k%8))))=val D+x*256^k:=by
 have hd:D.getD (k / 8) 0<256^(k%8):=by
  rw [word_val D _ hD.2]
  refine Nat.lt_of_le_of_lt (Nat.mod_le _ _) (Nat.div_lt_of_lt_mul ?_)
  rw [← pow256]
  exact hv
 obtain ⟨d,hdd⟩ : ∃ d,d=D.getD (k / 8) 0:=⟨_,rfl⟩
 have hs:=val_set D (k / 8) (d ||| x*2^(8*(k%8))) (by rw [hD.1]; omega)
 rw [← hdd] at hd hs ⊢
 have ho:d ||| x*2^(8*(k%8))=x*256^(k%8)+d:=by
  rw [Nat.or_comm,Nat.mul_comm,← Nat.two_pow_add_eq_or_of_lt (by rw [pow2_8]; exact hd),pow2_8,Nat.mul_comm]
 rw [ho] at hs ⊢
 constructor
 ·have h1:256^(k%8+1)≤256^8:=Nat.pow_le_pow_right (by decide) (by omega)
  rw [Nat.pow_succ] at h1
  have h2:x*256^(k%8)≤255*256^(k%8):=Nat.mul_le_mul_right _ (by omega)
  have h3:(256:Nat)^8=WB:=by decide
  omega
 ·rw [Nat.add_mul,Nat.mul_assoc,Nat.mul_comm (256^(k%8)),← pow256] at hs
  omega
theorem u64_orN (a b:Nat) (ha:a<18446744073709551616) (hb:b<18446744073709551616):bits .or .u64 (a:Int) (b:Int)=((a ||| b:Nat):Int):=by
 show IntKind.u64.wrap ((BitVec.ofInt 64 (a:Int) ||| BitVec.ofInt 64 (b:Int)).toNat:Int)=_
 rw [BitVec.toNat_or,ofInt64u a ha,ofInt64u b hb,IntKind.wrap_u64]
 have:=Nat.or_lt_two_pow (n:=64) (show a<2^64 by omega) (show b<2^64 by omega)
 omega
theorem run_idxB (L:List UInt8) (hL:L.length=32) (i:Nat) (hi:i<32) (w:World) :
 (Instr.index 22 (.agg (bysA L)) (.int .i64 (i:Int))).run Tryz.prog w = .ok (.int .u8 ((bt L i).toNat:Int)) w:=by
 have hg:(bysA L)[i]? = some (.int .u8 ((bt L i).toNat:Int)):=by
  unfold bysA bt
  simp [bys,List.getD,show i<L.length by omega]
 obtain ⟨i0,h1,h2⟩ : ∃ i0,Tryz.prog.info? 5=some i0∧i0.size=1:=by
  have:(Tryz.prog.info? 5).map (·.size)=some 1:=by kernel_rfl
  obtain ⟨i0,h1,h2⟩:=Option.map_eq_some_iff.1 this
  exact ⟨i0,h1,h2⟩
 simp [Instr.index,asIntOf,Sem.run_bind,run_underlying Tryz.underlying22,run_underlying Tryz.underlying5,sizeOf,typeInfo,h1,h2,part,isAgg,hg]
 intro h; omega
theorem load_cellW {x:World} {b off:Nat} {v:Value} (h:x.cell? ⟨b,off,none⟩=some v):(Instr.loadAt 23 (.pointer (some ⟨b,off,none⟩))).run Tryz.prog x = .ok v x:=by
 simp [Instr.loadAt,Instr.sureAddr,loadVar,isAgg,run_underlying Tryz.underlying23,h]
structure OfAt (w:World) (L:List UInt8) (D:List Nat) (g:Nat) (wr:World):Prop where
 rb:wr.heap[g]? = some (.cells (bysA L) 22 (0,0))
 ro:wr.heap[g+1]? = some (.cells (el 0) 173 (0,0))
 rd:wr.heap[g+1+1]? = some (.cells (wN D) 173 (0,0))
 be:Below w.heap.size w wr
set_option maxRecDepth 100000 in
set_option maxHeartbeats 1000000 in
theorem of_bytes (L:List UInt8) (hL:L.length=32) (x:FP) (hx:x.val=leN L%2^255%P) (w:World) (hF:FT w):Calls Tryz.prog 242 #[.agg (bysA L)] w fun e w'=>e = .returned (.agg (el x))∧Below w.heap.size w w':=by
 obtain ⟨w1,hw1⟩ : ∃ w1,w1=((w.alloc (.cells (bysA L) 22)).alloc (.cells (el 0) 173)).alloc (.cells (el 0) 173):=⟨_,rfl⟩
 have hb1:Below w.heap.size w w1:=by rw [hw1]; exact (((Below.refl _ _).alloc (Nat.le_refl _) _).alloc (by simp) _).alloc (by simp; try omega) _
 have hr0:w1.heap[w.heap.size]? = some (.cells (bysA L) 22 (0,0)):=by rw [hw1]; exact (Rg.heap_alloc_past _ _ _ (by simp; try omega)).trans ((Rg.heap_alloc_past _ _ _ (by simp)).trans (Rg.heap_alloc_at w _ _ rfl))
 have hr1:w1.heap[w.heap.size+1]? = some (.cells (el 0) 173 (0,0)):=by rw [hw1]; exact (Rg.heap_alloc_past _ _ _ (by simp)).trans (Rg.heap_alloc_at _ _ _ (by simp))
 have hr2:w1.heap[w.heap.size+1+1]? = some (.cells (el 0) 173 (0,0)):=by rw [hw1]; exact Rg.heap_alloc_at _ _ _ (by simp)
 have HST:Hid (OfAt w L [0,0,0,0] w.heap.size w1):=Lib.hid ⟨hr0,hr1,hr2,hb1⟩
 have HW1:=Lib.hid hw1
 have HL:=Lib.hid hL
 have HX:=Lib.hid hx
 have HF:=Lib.hid hF
 have HIL:Hid ((Tryz.prog.info? 22).map (·.size)=some (bysA L).size):=Lib.hid (by rw [bysA_size,hL]; kernel_rfl)
 clear hb1 hr0 hr1 hr2 hw1 hL hx hF
 go_enter Tryz.func242,Tryz.ntmps242
 go_upto_region 2 with fail
 rw [el_zero,← HW1.out]
 obtain ⟨g,hg⟩ : ∃ g,g=w.heap.size:=⟨_,rfl⟩
 rw [← hg] at HST ⊢
 have HG:=Lib.hid hg
 clear hg
 go_wp2_with (refine wpList_load_row rfl 22 _ rfl g rfl 22 (bysA L) (0,0) _ HST.out.rb Tryz.underlying22 rfl HIL.out ?_)
 go_loopw [7] (fun v wr => ∃ k:Nat,k≤32∧v = .int .i64 (k:Int) ∧ ∃ D,Hid (W4s D∧val D=leN (L.take k))∧Hid (OfAt w L D g wr)) (fun v _=>(32-intOf v).toNat)
 case atStart=>exact ⟨0,by omega,rfl,[0,0,0,0],Lib.hid ⟨⟨rfl,by simp⟩,rfl⟩,HST⟩
 case round =>
  clear HST
  obtain ⟨k,hk,rfl,D,HD,HQ⟩:=hrel
  by_cases hlk:k<32
  ·have q1:(k:Int)<32:=by omega
   have HIX:=Lib.hid (fun w=>run_idxB L HL.out k hlk w)
   obtain ⟨b,hb⟩ : ∃ b,b=(bt L k).toNat:=⟨_,rfl⟩
   have hb8:b<256:=by rw [hb]; exact (bt L k).toNat_lt
   have hvt:=leN_take L k (by rw [HL.out]; exact hlk)
   rw [← hb] at HIX hvt
   have hvl:val D<256^k:=by
    have h1:=leN_lt (L.take k)
    rw [List.length_take,HL.out,Nat.min_eq_left (by omega)] at h1
    rw [HD.out.2]; exact h1
   have hstep:=of_step HD.out.1 hlk hb8 hvl
   have hdl:D.getD (k / 8) 0<18446744073709551616:=HD.out.1.at _
   obtain ⟨d,hd⟩ : ∃ d,d=D.getD (k / 8) 0:=⟨_,rfl⟩
   rw [← hd] at hstep hdl
   obtain ⟨s,hs⟩ : ∃ s,s=b*2^(8*(k%8)):=⟨_,rfl⟩
   rw [← hs] at hstep
   have hs64:s<18446744073709551616:=by
    have h1:s≤d ||| s:=Nat.right_le_or
    have:=hstep.1
    unfold WB at this
    omega
   have hor:=u64_orN d s hdl hs64
   obtain ⟨y,hy⟩ : ∃ y,y=d ||| s:=⟨_,rfl⟩
   rw [← hy] at hstep hor
   have HD2:Hid (W4s (D.set (k / 8) y)∧val (D.set (k / 8) y)=leN (L.take (k+1))):=Lib.hid ⟨⟨by rw [List.length_set]; exact HD.out.1.1,set_lt HD.out.1.2 hstep.1⟩,by rw [hstep.2,hvt,HD.out.2]⟩
   have HDl:=Lib.hid HD.out.1.1
   have HDC:Hid ((wN D)[k / 8]? = some (.int .u64 (d:Int))):=Lib.hid (by rw [hd]; exact wN_get D _ (by rw [HDl.out]; omega))
   have hcast:((b:Int)*(2:Int)^(8*(k%8)))=(s:Int):=by rw [hs]; simp
   have HCAST:=Lib.hid hcast
   have HLT:=Lib.hid (lt_of_heap HQ.out.rd)
   have q2:(0:Int)≤(k:Int) / 8:=by omega
   have q3:(k:Int) / 8<4:=by omega
   have q4:((k:Int) / 8).toNat=k / 8:=by omega
   have q5:(0:Int)≤(k:Int)%8:=by omega
   have q6:IntKind.i64.wrap (8*((k:Int)%8))=8*((k:Int)%8):=by rw [IntKind.wrap_i64]; omega
   have q7:(0:Int)≤8*((k:Int)%8):=by omega
   have q8:(8*((k:Int)%8)).toNat=8*(k%8):=by omega
   have q9:IntKind.u64.wrap ((b:Int)*(2:Int)^(8*(k%8)))=(s:Int):=by rw [hcast,IntKind.wrap_u64]; omega
   clear hb hvt hvl hstep hd hs hy hcast HD hlk
   go_wp2_with fail
   rw [HIX.out]
   go_wp2_with fail
   refine Re.region (fun j=>j<wr.heap.size∧j≠g+1+1) 13 [⟨12,[],[],some (fun _ _=>undef),fun _ _ _ y'=>y'.heap[g+1+1]? = some (.cells (wN (D.set (k / 8) y)) 173 (0,0)),(· = g+1+1),[3]⟩] [12] (by kernel_rfl) (Re.own_one (i:=12) HLT.out (by intro s hs; simp only [List.mem_cons,List.not_mem_nil,or_false] at hs; subst hs; exact .inr ⟨rfl,rfl⟩)) (by kernel_rfl) ?_; intro p; simp only [List.take,List.drop]
   iterate 3 (refine Re.rK rfl rfl ?_; intro K hK; apply Exists.intro; refine ⟨?_,?_⟩; (focus (intro x hx;  go_simp; (first | (fail) | ((try go_bits); (try go_simp); (try rfl))))); go_simp; refine hK _ ?_; clear hK K)
   refine Re.r_load rfl rfl _ _ rfl (.int .u64 (d:Int)) (fun x hx=>load_cellW ((cell_of_row _ _ _ _ _ _ ((hx.block (g+1+1) (.inr ⟨12,_,rfl,by simp,rfl⟩)).trans HQ.out.rd)).trans HDC.out)) ?_
   intro K hK; go_simp; refine hK _ ?_; clear hK K
   iterate 5 (refine Re.rK rfl rfl ?_; intro K hK; apply Exists.intro; refine ⟨?_,?_⟩; (focus (intro x hx;  go_simp; (first | (fail) | ((try go_bits); (try go_simp); (try rfl))))); go_simp; refine hK _ ?_; clear hK K)
   iterate 3 (refine Re.rK rfl rfl ?_; intro K hK; apply Exists.intro; refine ⟨?_,?_⟩; (focus (intro x hx;  go_simp; (first | (fail) | ((try go_bits); (try go_simp); (try rfl))))); go_simp; refine hK _ ?_; clear hK K)
   refine Re.cK rfl rfl rfl ?_ ?_
   ·intro x Fs hx ho hg' K hK
    have h8:x.heap[g+1+1]? = some (.cells (wN D) 173 (0,0)):=(ho _ rfl).trans HQ.out.rd
    have e1:x.cell? ⟨g+1+1,k / 8,none⟩=some (.int .u64 (d:Int)):=(cell_of_row _ _ _ _ _ _ h8).trans HDC.out
    have e2:x.frozen? ⟨g+1+1,k / 8,none⟩=false:=frozen_of_row _ _ _ _ _ h8
    have H8:=Lib.hid h8
    clear h8 hx ho hg'
    go_wp2_with fail
    have he:x.setCell ⟨g+1+1,k / 8,none⟩ (.int .u64 (y:Int))=x.setRow (g+1+1) (wN (D.set (k / 8) y)):=by rw [setCell_eq_setRow x (g+1+1) (k / 8) _ _ _ _ H8.out,wN_set]
    rw [he]
    have hgr:=grownBy_setRowE x (g+1+1) (wN (D.set (k / 8) y))
    have h8':=setRow_heap x (g+1+1) _ (wN (D.set (k / 8) y)) _ _ H8.out
    exact hK Rc.dflt _ ⟨hgr.os,hgr.tape,hgr.output,hgr.size,fun j hj hn=>hgr.block j hj fun e=>hn (.inr (by cases e; rfl))⟩ (fun y' hy=>(hy.block _ ((Array.getElem?_eq_some_iff.1 h8').1) (.inr (.inl (.inr rfl)))).trans h8')
   intro K hK; go_simp; refine hK _ ?_; clear hK K
   refine Re.done fun x2 Fs2 hx hg' => ?_
   have hr:OfAt w L (D.set (k / 8) y) g x2:=by
    have hx':=Re.undrew hx
    have hlt:=HLT.out
    exact ⟨(hx'.block _ ⟨by omega,by omega⟩).trans HQ.out.rb,(hx'.block _ ⟨by omega,by omega⟩).trans HQ.out.ro,hg'.1,HQ.out.be.trans ⟨hx'.os,hx'.tape,hx'.output,hx'.size,fun j hj=>hx'.block j ⟨by have:=HQ.out.be.size; omega,by have:=HG.out; omega⟩⟩⟩
   have HR2:=Lib.hid hr
   clear hx hg' hr
   go_wp2_with fail
   refine NoPanic.normal ?_
   go_wp2_with fail
   exact ⟨⟨k+1,by omega,by congr 1,D.set (k / 8) y,HD2,HR2⟩,by simp only [intOf]; omega⟩
  ·obtain rfl:k=32:=by omega
   have hn : ¬ ((32:Nat):Int)<32:=by omega
   obtain ⟨n,hnn⟩ : ∃ n,n=leN L:=⟨_,rfl⟩
   have hv:val D=n:=by rw [HD.out.2,List.take_of_length_le (by rw [HL.out]; exact Nat.le_refl _),hnn]
   have hdl:D.getD 3 0<18446744073709551616:=HD.out.1.at _
   obtain ⟨d,hd⟩ : ∃ d,d=D.getD 3 0:=⟨_,rfl⟩
   rw [← hd] at hdl
   obtain ⟨y,hy⟩ : ∃ y,y=d%2^63:=⟨_,rfl⟩
   have hya:d &&& 9223372036854775807=y:=by rw [hy,← Nat.and_two_pow_sub_one_eq_mod]
   have hand:bits .and .u64 (d:Int) 9223372036854775807=(y:Int):=by
    have h:=u64_andN d 9223372036854775807 hdl (by omega)
    rw [hya] at h
    exact h
   have hc:wr.cell? ⟨g+1+1,3,none⟩=some (.int .u64 (d:Int)):=(cell_of_row _ _ _ _ _ _ HQ.out.rd).trans (by rw [hd]; exact wN_get D _ (by rw [HD.out.1.1]; omega))
   have hf:wr.frozen? ⟨g+1+1,3,none⟩=false:=frozen_of_row _ _ _ _ _ HQ.out.rd
   obtain ⟨wn,hwn⟩ : ∃ wn,wn=wr.setCell ⟨g+1+1,3,none⟩ (.int .u64 (y:Int)):=⟨_,rfl⟩
   obtain ⟨E,hE⟩ : ∃ E,E=D.set 3 y:=⟨_,rfl⟩
   have hEv:val E=n%2^255:=by
    have hs:=val_set D 3 y (by rw [HD.out.1.1]; omega)
    rw [← hd,← hE,hv] at hs
    have hw:=word_val D 3 HD.out.1.2
    rw [← hd,hv] at hw
    have hn4:=val_lt D HD.out.1.2
    rw [HD.out.1.1,hv] at hn4
    unfold WB at *
    omega
   have hEg:W4s E:=by rw [hE]; exact ⟨by rw [List.length_set]; exact HD.out.1.1,set_lt HD.out.1.2 (by unfold WB; omega)⟩
   have HQE:Hid (OfAt w L E g wn):=Lib.hid (by
    rw [hwn,setCell_eq_setRow wr (g+1+1) 3 _ _ _ _ HQ.out.rd,wN_set,← hE]
    exact ⟨(setRow_otherE _ _ (by omega)).trans HQ.out.rb,(setRow_otherE _ _ (by omega)).trans HQ.out.ro,setRow_heap _ _ _ _ _ _ HQ.out.rd,Rg.below_setRow HQ.out.be (by have:=HG.out; omega) _⟩)
   have HWN:=Lib.hid hwn
   have HRE:Hid (∀ y,FT y→Calls Tryz.prog 141 #[.agg (wN E)] y fun e w'=>e = .returned (.agg (el x))∧Below y.heap.size y w'):=Lib.hid (fun y hy=>by
    have h:=restN_any (n%2^255) (Nat.lt_trans (Nat.mod_lt _ (by decide)) (by decide)) y hy
    have h2:=words_val E hEg.2
    rw [hEg.1,hEv] at h2
    rw [h2,hnn,← HX.out] at h
    exact h)
   have HIE:=Lib.hid (infoL E hEg.1)
   have HSZ:Hid ((el 0).size=(el x).size):=Lib.hid (by simp only [el_size])
   clear hnn hv hd hy hya hwn hE hEv hEg HD
   go_upto_region 8 with fail
   rw [← HWN.out]
   go_wp2_with (refine wpList_load_row rfl 173 _ rfl (g+1+1) rfl 173 (wN E) (0,0) _ HQE.out.rd Tryz.underlying173 rfl HIE.out ?_)
   refine (HRE.out wn (HF.out.below HQE.out.be)).mono ?_
   rintro e w5 ⟨rfl,hb⟩
   have HB5:=Lib.hid (HQE.out.be.trans (hb.mono HQE.out.be.size))
   have HR5:=Lib.hid (Rp.row_le hb HQE.out.ro)
   clear hb
   go_wp2_with (refine Rg.store_row rfl 173 _ _ rfl (g+1) rfl 173 (el 0) (el x) rfl HR5.out (infoEl x) HSZ.out (wN_one _) ?_)
   refine bodyPost_ret (v := .agg (el x)) (results_cell_row (P:=Tryz.prog) rfl _ _ (g+1) 173 (el x) (0,0) _ rfl (setRow_heap _ _ _ _ 173 _ HR5.out) Tryz.underlying173 rfl (infoEl x)) rfl ⟨rfl,Rg.below_setRow HB5.out (by have:=HG.out; omega) _⟩
end Fld
end Go.Proofs.YtfodadedkilgdaaGreatDoor

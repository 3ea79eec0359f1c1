/- A part of the proof. Plain; no condition. -/
import Derived.Test.YtfodadedkilgdaaGreatDoorP33
import Derived.Test.YtfodadedkilgdaaGreatDoorP30
namespace Go.Proofs.YtfodadedkilgdaaGreatDoor
set_option linter.unusedVariables false
set_option linter.unusedSimpArgs false
open Go.RowKit Bits Mem Sha
namespace Vr
open Fld hiding SubAt SubAt.start sub_any infoE
open Sca (sn Q OT sn_size infoSn sn_one sn_zero Q_pos Q_W4)
open Ed (FP fpow)
def keyB (l:List UInt8):Bool:=decB l && !decide (eightA (decA l)=(0,1))
theorem infoP0:(Tryz.prog.info? 175).map (·.size)=some (pt 0 0 0 0).size:=infoPt 0 0 0 0
theorem dec_cases (l:List UInt8) (hl:l.length=32) : ∃ (C:Array Value) (e0:Int),((decB l=true∧C=ptv (decP l)∧e0=0)∨(decB l=false∧C=pt 0 0 0 0∧e0=15))∧C.size=16∧C.all (·.oneCell')=true∧(∀ w,ET w→Calls Tryz.prog 232 #[.agg (bysA l)] w fun e w'=>e = .returned (.tuple #[.agg C,.int .i64 e0])∧Below w.heap.size w w'):=by
 by_cases hd:decB l=true
 ·refine ⟨ptv (decP l),0,.inl ⟨hd,rfl,rfl⟩,ptv_size _,ptv_one _,fun w hF => ?_⟩
  have h:=decode_p l hl w hF
  rw [if_pos hd] at h
  exact h
 ·refine ⟨pt 0 0 0 0,15,.inr ⟨by simpa using hd,rfl,rfl⟩,pt_size _ _ _ _,wN_one _,fun w hF => ?_⟩
  have h:=decode_p l hl w hF
  rw [if_neg hd] at h
  exact h
theorem info16 (C:Array Value) (h:C.size=16):(Tryz.prog.info? 175).map (·.size)=some C.size:=by rw [h,← pt_size 0 0 0 0]; exact infoP0
theorem load_16 {x:World} {b:Nat} {C:Array Value} {t:TypeId} {f:Nat×Nat} (h:x.heap[b]? = some (.cells C t f)) (hC:C.size=16):(Instr.loadAt 175 (.pointer (some ⟨b,0,none⟩))).run Tryz.prog x = .ok (.agg C) x:=by
 have:=run_loadAt_mid x b 0 175 C.toList _ (fun j u hu=>by
  rw [Nat.zero_add,cell_of_row x b _ _ _ _ h]
  simpa using hu) Tryz.underlying175 rfl (by
  rw [Array.length_toList]; exact info16 C hC)
 simpa using this
end Vr
end Go.Proofs.YtfodadedkilgdaaGreatDoor
namespace Go.Proofs.YtfodadedkilgdaaGreatDoor
set_option linter.unusedVariables false
set_option linter.unusedSimpArgs false
open Go.RowKit Bits Mem Sha
namespace Vr
open Fld hiding SubAt SubAt.start sub_any infoE
open Sca (sn Q OT sn_size infoSn sn_one sn_zero Q_pos Q_W4)
open Ed (FP fpow)
def prfG (l:List UInt8):List UInt8:=(l.drop 0).take 32
theorem run_arr (b off n c:Nat) (h:32≤n) (w:World):(Instr.arrayAt 22 (.slice (some ⟨b,off,none⟩) n c)).run Tryz.prog w = .ok (.pointer (some ⟨b,off,none⟩)) w:=by
 simp [Instr.arrayAt,run_underlying Tryz.underlying22,Nat.not_lt.2 h]
theorem l_arr {Q:Exit→Act→World→Prop} {ops:Array Oper} {a:Act} {w:World} {o:Oper} {rest:List Oper} (hg:o.guard=none) (y:Operand) (ho:o.op = .sliceToArrayPointer 22 y) (b off n c:Nat) (hy:a.eval y = .slice (some ⟨b,off,none⟩) n c) (hn:32≤n) (h:wpList Tryz.prog ops Q rest (a.put o.dst (.pointer (some ⟨b,off,none⟩))) w):wpList Tryz.prog ops Q (o::rest) a w:=by
 refine wpList_plain hg fun K' hK' => ?_
 unfold Oper.wp
 have hr:=run_arr b off n c hn w
 have:(execOp a.eval o).run Tryz.prog w = .ok (.value (.pointer (some ⟨b,off,none⟩))) w:=by simp [execOp,ho,hy,hr]
 rw [this]
 exact hK' _ _ h
end Vr
end Go.Proofs.YtfodadedkilgdaaGreatDoor
namespace Go.Proofs.YtfodadedkilgdaaGreatDoor
set_option linter.unusedVariables false
set_option linter.unusedSimpArgs false
open Go.RowKit Bits Mem Sha
namespace Vr
open Fld hiding SubAt SubAt.start sub_any infoE
open Sca (sn Q OT sn_size infoSn sn_one sn_zero Q_pos Q_W4)
open Ed (FP fpow)
def IsB (w:World) (v:Value) (l:List UInt8):Prop := ∃ q c,v = .slice q l.length c∧Rd w 1 (.slice q l.length c) l.length (bys l)
theorem IsB.below {w w':World} {v:Value} {l:List UInt8} (h:IsB w v l) (hb:Below w.heap.size w w'):IsB w' v l:=by
 obtain ⟨q,c,e,hr⟩:=h
 exact ⟨q,c,e,hr.below hb⟩
theorem IsB.row {x:World} {b off n c:Nat} {l:List UInt8} {t:TypeId} {f:Nat×Nat} (h:x.heap[b]? = some (.cells (bysA l) t f)) (hn:off+n≤l.length) (hc:n≤c) (hm:c≤maxLen):IsB x (.slice (some ⟨b,off,none⟩) n c) ((l.drop off).take n):=by
 have e:((l.drop off).take n).length=n:=by rw [List.length_take,List.length_drop]; omega
 exact ⟨_,c,by rw [e],by rw [e]; exact Rd_row h hn hc hm⟩
theorem IsB.lit (w:World) (l:List UInt8) (t:TypeId) (n:Nat) (hn:l.length=n) (hm:n≤maxLen):IsB (w.alloc (.cells (bysA l) t)) (.slice (some ⟨w.heap.size,0,none⟩) n n) l:=by
 subst hn
 exact ⟨_,_,rfl,Rd_lit w (bysA l) t 1 l.length (by rw [bysA_size,Nat.mul_one]) hm⟩
theorem Parts.mk3 (w:World) (t:TypeId) {a b c:List UInt8} {x y z:Value} (hx:IsB w x a) (hy:IsB w y b) (hz:IsB w z c):Parts (w.alloc (.cells #[x,y,z] t)) (.slice (some ⟨w.heap.size,0,none⟩) 3 3) [a,b,c] :=
 Parts.new w t [x,y,z] [a,b,c] rfl (show 3≤maxLen by decide) (fun i hi=>by
  match i,hi with
  | 0,_=>obtain ⟨q,c,rfl,h⟩:=hx; exact ⟨q,c,rfl,h⟩
  | 1,_=>obtain ⟨q,c,rfl,h⟩:=hy; exact ⟨q,c,rfl,h⟩
  | 2,_=>obtain ⟨q,c,rfl,h⟩:=hz; exact ⟨q,c,rfl,h⟩)
theorem Parts.mk4 (w:World) (t:TypeId) {a b c d:List UInt8} {x y z u:Value} (hx:IsB w x a) (hy:IsB w y b) (hz:IsB w z c) (hu:IsB w u d):Parts (w.alloc (.cells #[x,y,z,u] t)) (.slice (some ⟨w.heap.size,0,none⟩) 4 4) [a,b,c,d] :=
 Parts.new w t [x,y,z,u] [a,b,c,d] rfl (show 4≤maxLen by decide) (fun i hi=>by
  match i,hi with
  | 0,_=>obtain ⟨q,c,rfl,h⟩:=hx; exact ⟨q,c,rfl,h⟩
  | 1,_=>obtain ⟨q,c,rfl,h⟩:=hy; exact ⟨q,c,rfl,h⟩
  | 2,_=>obtain ⟨q,c,rfl,h⟩:=hz; exact ⟨q,c,rfl,h⟩
  | 3,_=>obtain ⟨q,c,rfl,h⟩:=hu; exact ⟨q,c,rfl,h⟩)
end Vr
end Go.Proofs.YtfodadedkilgdaaGreatDoor
namespace Go.Proofs.YtfodadedkilgdaaGreatDoor
set_option linter.unusedVariables false
set_option linter.unusedSimpArgs false
open Go.RowKit Bits Mem Sha
namespace Vr
open Fld hiding SubAt SubAt.start sub_any infoE
open Sca (sn Q OT sn_size infoSn sn_one sn_zero Q_pos Q_W4)
open Ed (FP fpow)
def sumV (l:List UInt8):List UInt8:=S5.sum ([3,3]++encP (eightA (decA (prfG l))) ++ [0])
theorem sumV_eq (l:List UInt8):sumV l=S5.sum ([3,3]++encP (eightA (decA (prfG l))) ++ [0]):=by unfold sumV; exact Eq.refl _
theorem flat3 (a b c:List UInt8) : [a,b,c].flatten=a++b++c:=by simp
theorem flat4 (a b c d:List UInt8) : [a,b,c,d].flatten=a++b++c++d:=by simp
theorem sumV_length (l:List UInt8):(sumV l).length=64:=S5.sum_length _
set_option maxRecDepth 100000 in
set_option maxHeartbeats 400000 in
theorem sumV_gd (l:List UInt8) (hl:l.length=80) (w:World) (hF:ET w) (hT:S5.Tabs w):Calls Tryz.prog 210 #[.agg (bysA l)] w fun e w'=>e = .returned (if decB (prfG l) then .tuple #[.agg (bysA (sumV l)),.int .i64 0] else .tuple #[.agg (bysA S5.z64),.int .i64 17])∧Below w.heap.size w w':=by
 have hl0:(prfG l).length=32:=by unfold prfG; rw [List.length_take,List.length_drop]; omega
 obtain ⟨C,e0,hc,hC,h1,hD⟩:=dec_cases (prfG l) hl0
 obtain ⟨w1,hw1⟩ : ∃ w1,w1=(w.alloc (.cells (bysA l) 55)).alloc (.cells (bysA S5.z64) 51):=⟨_,rfl⟩
 have hb1:Below w.heap.size w w1:=by rw [hw1]; exact ((Below.refl _ _).alloc (Nat.le_refl _) _).alloc (by simp) _
 have HR0:Hid (w1.heap[w.heap.size]? = some (.cells (bysA l) 55 (0,0))):=Lib.hid (by rw [hw1]; exact (Rg.heap_alloc_past _ _ _ (by simp)).trans (Rg.heap_alloc_at _ _ _ rfl))
 have HR1:Hid (w1.heap[w.heap.size+1]? = some (.cells (bysA S5.z64) 51 (0,0))):=Lib.hid (by rw [hw1]; exact Rg.heap_alloc_at _ _ _ (by simp))
 have HF1:=Lib.hid (hF.below hb1)
 have HT1:=Lib.hid (hT.below hb1)
 have HB1:=Lib.hid hb1
 have HW1:=Lib.hid hw1
 have HL:=Lib.hid hl
 have HIC:=Lib.hid (info16 C hC)
 have HSC:Hid ((pt 0 0 0 0).size=C.size):=Lib.hid (by rw [hC,pt_size])
 have HCZ:=Lib.hid hC
 have H1:=Lib.hid h1
 have HD:=Lib.hid hD
 have HC:=Lib.hid hc
 obtain ⟨R,hR⟩ : ∃ R,R=(if decB (prfG l) then Value.tuple #[.agg (bysA (sumV l)),.int .i64 0] else .tuple #[.agg (bysA S5.z64),.int .i64 17]):=⟨_,rfl⟩
 rw [← hR]
 have HRE:=Lib.hid hR
 have HIZ:=Lib.hid (S5.info64b S5.z64 rfl)
 clear hw1 hb1 hF hT hl hC h1 hD hc hl0 hR
 go_enter Tryz.func210,Tryz.ntmps210
 go_upto_region 1 with fail
 rw [S5.z64_arr,← HW1.out]
 go_wp2_with (first | refine l_arr rfl _ rfl _ _ _ _ rfl (by decide) ?_ | refine l_loadP rfl 22 _ rfl (.pointer (some ⟨w.heap.size,0,none⟩)) rfl (.agg (bysA (prfG l))) (load_mid HR0.out (by rw [HL.out]; decide)) ?_)
 refine (HD.out w1 HF1.out).mono ?_
 rintro e w2 ⟨rfl,hb⟩
 obtain ⟨w3,hw3⟩ : ∃ w3,w3=w2.alloc (.cells C 175):=⟨_,rfl⟩
 have hb3:Below w1.heap.size w1 w3:=by rw [hw3]; exact hb.alloc hb.size _
 have hrp:w3.heap[w2.heap.size]? = some (.cells C 175 (0,0)):=by rw [hw3]; exact Rg.heap_alloc_at _ _ _ rfl
 have HP3:=Lib.hid hrp
 have HR31:=Lib.hid (Rp.row_le hb3 HR1.out)
 have HB3:=Lib.hid (HB1.out.trans (hb3.mono HB1.out.size))
 have HF3:=Lib.hid (HF1.out.below hb3)
 have HT3:=Lib.hid (HT1.out.below hb3)
 have HW3:=Lib.hid hw3
 clear hb hb3 hw3 hrp
 go_upto_region 2 with (refine Rg.store_row_new rfl 175 _ _ rfl w2.heap.size rfl rfl 175 _ C rfl HIC.out HSC.out H1.out ?_)
 rw [← HW3.out]
 rcases HC.out with ⟨hd,hc2,rfl⟩ | ⟨hd,hc2,rfl⟩
 ·subst hc2
  have HRR:Hid (R = .tuple #[.agg (bysA (sumV l)),.int .i64 0]):=Lib.hid (by rw [HRE.out,if_pos hd])
  have hgd:=Gd.dec hd
  obtain ⟨E,hE⟩ : ∃ E,E=encP (eightA (decA (prfG l))):=⟨_,rfl⟩
  have HE8:=Lib.hid (eight_p (decP (prfG l)) hgd.z w3 HF3.out)
  have HEN:Hid (∀ x,ET x→Calls Tryz.prog 56 #[.agg (ptv (tw (tw (tw (decP (prfG l))))))] x fun e w'=>e = .returned (.agg (bysA E))∧Below x.heap.size x w'):=Lib.hid (fun x hx=>by rw [hE]; exact enc_gd hgd.eight x hx)
  have hEl:E.length=32:=by rw [hE]; exact encP_length _
  have HEL:=Lib.hid hEl
  have HIE:=Lib.hid (info32E E hEl)
  have HZE:Hid ((bysA (List.replicate 32 0)).size=(bysA E).size):=Lib.hid (by rw [bysA_size,bysA_size,hEl]; rfl)
  obtain ⟨V,hV⟩ : ∃ V,V=sumV l:=⟨_,rfl⟩
  have HVE:Hid (S5.sum ([[3,3],E,[0]]:List (List UInt8)).flatten=V):=Lib.hid (by rw [flat3,hV,hE,sumV_eq])
  have hVl:V.length=64:=by rw [hV]; exact sumV_length l
  have HIV:=Lib.hid (S5.info64b V hVl)
  have HZV:Hid ((bysA S5.z64).size=(bysA V).size):=Lib.hid (by rw [bysA_size,bysA_size,hVl]; rfl)
  rw [← hV] at HRR
  clear hd hgd hE hEl hV hVl
  go_wp2_with (refine l_loadP rfl _ _ rfl (.pointer (some ⟨w2.heap.size,0,none⟩)) rfl (.agg (ptv (decP (prfG l)))) (load_16 HP3.out HCZ.out) ?_)
  refine HE8.out.mono ?_
  rintro e w4 ⟨rfl,hb⟩
  have HF4:=Lib.hid (HF3.out.below hb)
  have HT4:=Lib.hid (HT3.out.below hb)
  have HR4:=Lib.hid (Rp.row_le hb HR31.out)
  have HB4:=Lib.hid (HB3.out.trans (hb.mono HB3.out.size))
  clear hb
  go_wp2_with fail
  refine (HEN.out w4 HF4.out).mono ?_
  rintro e w5 ⟨rfl,hb⟩
  obtain ⟨w6,hw6⟩ : ∃ w6,w6=w5.alloc (.cells (bysA E) 22):=⟨_,rfl⟩
  have hb6:Below w4.heap.size w4 w6:=by rw [hw6]; exact hb.alloc hb.size _
  have hre:w6.heap[w5.heap.size]? = some (.cells (bysA E) 22 (0,0)):=by rw [hw6]; exact Rg.heap_alloc_at _ _ _ rfl
  have hb46:=HB4.out.trans (hb6.mono HB4.out.size)
  have HR6:=Lib.hid (Rp.row_le hb6 HR4.out)
  have hs6:w.heap.size+1<w6.heap.size:=lt_of_heap HR6.out
  have HW6:=Lib.hid hw6
  obtain ⟨w7,hw7⟩ : ∃ w7,w7=((w6.alloc (.cells (bysA [3,3]) 5)).alloc (.cells (bysA [0]) 5)).alloc (.cells #[.slice (some ⟨w6.heap.size,0,none⟩) 2 2,.slice (some ⟨w5.heap.size,0,none⟩) 32 32,.slice (some ⟨w6.heap.size+1,0,none⟩) 1 1] 31):=⟨_,rfl⟩
  have hb67:Below w6.heap.size w6 ((w6.alloc (.cells (bysA [3,3]) 5)).alloc (.cells (bysA [0]) 5)):=((Below.refl _ _).alloc (Nat.le_refl _) _).alloc (by simp) _
  have hb7:Below w6.heap.size w6 w7:=by rw [hw7]; exact hb67.alloc (by simp; omega) _
  have hp7:Parts w7 (.slice (some ⟨w6.heap.size+1+1,0,none⟩) 3 3) [[3,3],E,[0]]:=by
   have h1:IsB ((w6.alloc (.cells (bysA [3,3]) 5)).alloc (.cells (bysA [0]) 5)) (.slice (some ⟨w6.heap.size,0,none⟩) 2 2) [3,3]:=(IsB.lit w6 [3,3] 5 2 rfl (by decide)).below ((Below.refl _ _).alloc (Nat.le_refl _) _)
   have h2:IsB ((w6.alloc (.cells (bysA [3,3]) 5)).alloc (.cells (bysA [0]) 5)) (.slice (some ⟨w5.heap.size,0,none⟩) 32 32) E:=by
    have:=(IsB.row (off:=0) (n:=32) (c:=32) hre (by rw [HEL.out]; decide) (Nat.le_refl _) (by decide)).below hb67
    rwa [List.drop_zero,List.take_of_length_le (by rw [HEL.out]; decide)] at this
   have h3:IsB ((w6.alloc (.cells (bysA [3,3]) 5)).alloc (.cells (bysA [0]) 5)) (.slice (some ⟨w6.heap.size+1,0,none⟩) 1 1) [0]:=by
    have:=IsB.lit (w6.alloc (.cells (bysA [3,3]) 5)) [0] 5 1 rfl (by decide)
    rwa [World.size_alloc] at this
   have:=Parts.mk3 _ 31 h1 h2 h3
   rw [World.size_alloc,World.size_alloc] at this
   rw [hw7]
   exact this
  have HCS:=Lib.hid (S5.sum_any (some ⟨w6.heap.size+1+1,0,none⟩) 3 [[3,3],E,[0]] w7 ((HT4.out.below hb6).below hb7) hp7 (by simp [HEL.out]))
  rw [HVE.out] at HCS
  have HR7:=Lib.hid (Rp.row_le hb7 HR6.out)
  have HB7:=Lib.hid (hb46.trans (hb7.mono hb46.size))
  have HW7:Hid (w7=((w6.alloc (.cells #[.int .u8 3,.int .u8 3] 5)).alloc (.cells #[.int .u8 0] 5)).alloc (.cells #[.slice (some ⟨w6.heap.size,0,none⟩) 2 2,.slice (some ⟨w5.heap.size,0,none⟩) 32 32,.slice (some ⟨w6.heap.size+1,0,none⟩) 1 1] 31)):=Lib.hid hw7
  clear hb hw6 hb6 hre hb46 hw7 hb67 hb7 hp7 HF4 HT4 HR4 HB4
  go_upto_region 5 with (first | (rw [← bz32]; refine Rg.store_row_new rfl 22 _ _ rfl w5.heap.size rfl rfl 22 (bysA (List.replicate 32 0)) (bysA E) rfl HIE.out HZE.out (bysA_one _) ?_))
  rw [← HW6.out]
  go_wp2_with fail
  rw [← HW7.out]
  refine HCS.out.mono ?_
  rintro e w8 ⟨rfl,hb⟩
  have HR8:=Lib.hid (Rp.row_le hb HR7.out)
  have HB8:=Lib.hid (HB7.out.trans (hb.mono HB7.out.size))
  clear hb
  go_wp2_with (refine Rg.store_row rfl 51 _ _ rfl (w.heap.size+1) rfl 51 (bysA S5.z64) (bysA V) rfl HR8.out HIV.out HZV.out (bysA_one _) ?_)
  refine bodyPost_ret (v := .tuple #[.agg (bysA V),.int .i64 0]) (results_cell_slotE (P:=Tryz.prog) rfl _ _ (w.heap.size+1) 51 (bysA V) (0,0) _ _ rfl (setRow_heap _ _ _ _ 51 _ HR8.out) rfl Tryz.underlying51 rfl HIV.out) rfl ⟨by rw [HRR.out],Rg.below_setRow HB8.out (by omega) _⟩
 ·have HRR:Hid (R = .tuple #[.agg (bysA S5.z64),.int .i64 17]):=Lib.hid (by rw [HRE.out,hd]; rfl)
  subst hc2
  clear hd
  go_wp2_with (first | (refine l_buildE rfl 51 _ rfl (bysA S5.z64) (by go_simp; kernel_rfl) ?_) | (refine Rg.store_row rfl 51 _ _ rfl (w.heap.size+1) rfl 51 (bysA S5.z64) (bysA S5.z64) rfl HR31.out HIZ.out rfl (bysA_one _) ?_))
  refine bodyPost_ret (v := .tuple #[.agg (bysA S5.z64),.int .i64 17]) (results_cell_slotE (P:=Tryz.prog) rfl _ _ (w.heap.size+1) 51 (bysA S5.z64) (0,0) _ _ rfl (setRow_heap _ _ _ _ 51 _ HR31.out) rfl Tryz.underlying51 rfl HIZ.out) rfl ⟨by rw [HRR.out],Rg.below_setRow HB3.out (by omega) _⟩
end Vr
end Go.Proofs.YtfodadedkilgdaaGreatDoor
namespace Go.Proofs.YtfodadedkilgdaaGreatDoor
set_option linter.unusedVariables false
set_option linter.unusedSimpArgs false
open Go.RowKit Bits Mem Sha
namespace Vr
open Fld hiding SubAt SubAt.start sub_any infoE
open Sca (sn Q OT sn_size infoSn sn_one sn_zero Q_pos Q_W4)
open Ed (FP fpow)
def tryS (pub text:List UInt8) (k:Nat):List UInt8:=S5.sum ([3,1]++pub++text ++ [UInt8.ofNat k,0])
def tryH (pub text:List UInt8) (k:Nat):List UInt8:=((tryS pub text k).drop 0).take 32
theorem tryS_eq (pub text:List UInt8) (k:Nat):tryS pub text k=S5.sum ([3,1]++pub++text ++ [UInt8.ofNat k,0]):=by unfold tryS; exact Eq.refl _
theorem tryS_length (pub text:List UInt8) (k:Nat):(tryS pub text k).length=64:=S5.sum_length _
theorem tryH_length (pub text:List UInt8) (k:Nat):(tryH pub text k).length=32:=by unfold tryH; rw [List.length_take,List.length_drop,tryS_length]; decide
def ptF (pub text:List UInt8):Nat→Nat→Option Nat
 | 0,_=>none
 | f+1,k=>if keyB (tryH pub text k) then some k else ptF pub text f (k+1)
def ptK (pub text:List UInt8):Option Nat:=ptF pub text 256 0
theorem ptF_skip (pub text:List UInt8) : ∀ (k f c:Nat),(∀ j,c≤j→j<c+k→keyB (tryH pub text j)=false)→ptF pub text (k+f) c=ptF pub text f (c+k)
 | 0,f,c,_=>by rw [Nat.zero_add]; rfl
 | k+1,f,c,h=>by
   rw [show k+1+f=(k+f)+1 by omega]
   show (if keyB (tryH pub text c) then some c else ptF pub text (k+f) (c+1))=_
   rw [h c (Nat.le_refl _) (by omega)]
   rw [if_neg (by decide),ptF_skip pub text k f (c+1) (fun j h1 h2=>h j (by omega) (by omega)),show c+1+k=c+(k+1) by omega]
theorem ptK_at (pub text:List UInt8) (k:Nat) (hk:k<256) (h : ∀ j,j<k→keyB (tryH pub text j)=false) (hy:keyB (tryH pub text k)=true):ptK pub text=some k:=by
 have:=ptF_skip pub text k (256-k) 0 (fun j _ h2=>h j (by omega))
 rw [show k+(256-k)=256 by omega,Nat.zero_add] at this
 unfold ptK
 rw [this,show 256-k=(255-k)+1 by omega]
 show (if keyB (tryH pub text k) then some k else _)=some k
 rw [hy,if_pos rfl]
theorem ptK_none (pub text:List UInt8) (h : ∀ j,j<256→keyB (tryH pub text j)=false):ptK pub text=none:=by
 have:=ptF_skip pub text 256 0 0 (fun j _ h2=>h j (by omega))
 exact this
def ptP (pub text:List UInt8) (k:Nat):P4:=tw (tw (tw (decP (tryH pub text k))))
def ptA (pub text:List UInt8) (k:Nat):A2:=eightA (decA (tryH pub text k))
theorem Gd.pt {pub text:List UInt8} {k:Nat} (h:keyB (tryH pub text k)=true):Gd (ptP pub text k) (ptA pub text k):=by
 unfold keyB at h
 rw [Bool.and_eq_true] at h
 exact (Gd.dec h.1).eight
theorem ptF_some (pub text:List UInt8) : ∀ f c k,ptF pub text f c=some k→keyB (tryH pub text k)=true
 | 0,_,_,h=>by cases h
 | f+1,c,k,h=>by
   unfold ptF at h
   by_cases hk:keyB (tryH pub text c)=true
   · rw [if_pos hk] at h; cases h; exact hk
   · rw [if_neg hk] at h; exact ptF_some pub text f (c+1) k h
def ptR (pub text:List UInt8):Value:=match ptK pub text with
 | some k => .tuple #[.agg (ptv (ptP pub text k)),.int .i64 0]
 | none => .tuple #[.agg (pt 0 0 0 0),.int .i64 15]
theorem u8_wrapN (k:Nat):IntKind.u8.wrap (k:Int)=((UInt8.ofNat k).toNat:Int):=by
 rw [IntKind.wrap_u8,UInt8.toNat_ofNat']; omega
structure TrAt (w:World) (pub:List UInt8) (wr:World):Prop where
 r0:wr.heap[w.heap.size]? = some (.cells (bysA pub) 22 (0,0))
 r1:wr.heap[w.heap.size+1]? = some (.cells (pt 0 0 0 0) 175 (0,0))
 be:Below w.heap.size w wr
theorem TrAt.below {w:World} {pub:List UInt8} {wr x:World} (h:TrAt w pub wr) (hb:Below wr.heap.size wr x):TrAt w pub x:=⟨Rp.row_le hb h.r0,Rp.row_le hb h.r1,h.be.trans (hb.mono h.be.size)⟩
set_option maxRecDepth 100000 in
set_option maxHeartbeats 1000000 in
theorem point_gd (pub text:List UInt8) (hp:pub.length=32) (v:Value) (w:World) (hv:IsB w v text) (hn:text.length≤80000000) (hF:ET w) (hT:S5.Tabs w):Calls Tryz.prog 230 #[.agg (bysA pub),v] w fun e w'=>e = .returned (ptR pub text)∧Below w.heap.size w w':=by
 obtain ⟨w1,hw1⟩ : ∃ w1,w1=(w.alloc (.cells (bysA pub) 22)).alloc (.cells (pt 0 0 0 0) 175):=⟨_,rfl⟩
 have hb1:Below w.heap.size w w1:=by rw [hw1]; exact ((Below.refl _ _).alloc (Nat.le_refl _) _).alloc (by simp) _
 have HST:Hid (TrAt w pub w1):=Lib.hid ⟨by rw [hw1]; exact (Rg.heap_alloc_past _ _ _ (by simp)).trans (Rg.heap_alloc_at _ _ _ rfl),by rw [hw1]; exact Rg.heap_alloc_at _ _ _ (by simp),hb1⟩
 have HW1:=Lib.hid hw1
 have HF:=Lib.hid hF
 have HT:=Lib.hid hT
 have HP:=Lib.hid hp
 have HN:=Lib.hid hn
 have HV:=Lib.hid hv
 obtain ⟨qv,cv,rfl,_⟩:=hv
 obtain ⟨nt,hnt⟩ : ∃ nt,nt=text.length:=⟨_,rfl⟩
 rw [← hnt] at HV ⊢
 clear hnt
 obtain ⟨R,hR⟩ : ∃ R,R=ptR pub text:=⟨_,rfl⟩
 rw [← hR]
 have HRE:=Lib.hid hR
 clear hw1 hb1 hF hT hp hn hR
 go_enter Tryz.func230,Tryz.ntmps230
 go_upto_region 1 with fail
 rw [pt_zero,← HW1.out]
 go_wp2_with fail
 go_loopw [10] (fun kv wr => ∃ k:Nat,k≤256∧kv = .int .i64 k∧Hid (∀ j,j<k→keyB (tryH pub text j)=false)∧Hid (TrAt w pub wr)) (fun kv _=>256-(intOf kv).toNat)
 case atStart=>exact ⟨0,by omega,rfl,Lib.hid (fun j hj=>by omega),HST⟩
 case round =>
  obtain ⟨k,hk,rfl,HNO,HQ⟩:=hrel
  clear HST
  by_cases hlt:k<256
  ·have hltI:(k:Int)<256:=by omega
   have hwk:=u8_wrapN k
   obtain ⟨S,hS⟩ : ∃ S,S=tryS pub text k:=⟨_,rfl⟩
   obtain ⟨H,hH⟩ : ∃ H,H=tryH pub text k:=⟨_,rfl⟩
   have hSH:(S.drop 0).take 32=H:=by rw [hS,hH]; rfl
   have hSl:S.length=64:=by rw [hS]; exact tryS_length _ _ _
   have hHl:H.length=32:=by rw [hH]; exact tryH_length _ _ _
   obtain ⟨kb,hkb⟩ : ∃ kb,kb=UInt8.ofNat k:=⟨_,rfl⟩
   rw [← hkb] at hwk
   have HSE:Hid (S5.sum ([[3,1],pub,text,[kb,0]]:List (List UInt8)).flatten=S):=Lib.hid (by rw [flat4,hS,tryS_eq,hkb])
   have HHE:=Lib.hid hH
   obtain ⟨w2,hw2⟩ : ∃ w2,w2=((wr.alloc (.cells (bysA [3,1]) 5)).alloc (.cells (bysA [kb,0]) 5)).alloc (.cells #[.slice (some ⟨wr.heap.size,0,none⟩) 2 2,.slice (some ⟨w.heap.size,0,none⟩) 32 32,.slice qv nt cv,.slice (some ⟨wr.heap.size+1,0,none⟩) 2 2] 31):=⟨_,rfl⟩
   have hb0:Below wr.heap.size wr ((wr.alloc (.cells (bysA [3,1]) 5)).alloc (.cells (bysA [kb,0]) 5)):=((Below.refl _ _).alloc (Nat.le_refl _) _).alloc (by simp) _
   have hb2:Below wr.heap.size wr w2:=by rw [hw2]; exact hb0.alloc (by simp; omega) _
   have hp2:Parts w2 (.slice (some ⟨wr.heap.size+1+1,0,none⟩) 4 4) [[3,1],pub,text,[kb,0]]:=by
    have h1:IsB ((wr.alloc (.cells (bysA [3,1]) 5)).alloc (.cells (bysA [kb,0]) 5)) (.slice (some ⟨wr.heap.size,0,none⟩) 2 2) [3,1]:=(IsB.lit wr [3,1] 5 2 rfl (by decide)).below ((Below.refl _ _).alloc (Nat.le_refl _) _)
    have h2:IsB ((wr.alloc (.cells (bysA [3,1]) 5)).alloc (.cells (bysA [kb,0]) 5)) (.slice (some ⟨w.heap.size,0,none⟩) 32 32) pub:=by
     have:=(IsB.row (off:=0) (n:=32) (c:=32) HQ.out.r0 (by rw [HP.out]; decide) (Nat.le_refl _) (by decide)).below hb0
     rwa [List.drop_zero,List.take_of_length_le (by rw [HP.out]; decide)] at this
    have h3:=(HV.out.below HQ.out.be).below hb0
    have h4:IsB ((wr.alloc (.cells (bysA [3,1]) 5)).alloc (.cells (bysA [kb,0]) 5)) (.slice (some ⟨wr.heap.size+1,0,none⟩) 2 2) [kb,0]:=by
     have:=IsB.lit (wr.alloc (.cells (bysA [3,1]) 5)) [kb,0] 5 2 rfl (by decide)
     rwa [World.size_alloc] at this
    have:=Parts.mk4 _ 31 h1 h2 h3 h4
    rw [World.size_alloc,World.size_alloc] at this
    rw [hw2]
    exact this
   have hbw:=HQ.out.be.trans (hb2.mono HQ.out.be.size)
   have HCS:=Lib.hid (S5.sum_any (some ⟨wr.heap.size+1+1,0,none⟩) 4 [[3,1],pub,text,[kb,0]] w2 (HT.out.below hbw) hp2 (by rw [flat4]; simp [HP.out]; have:=HN.out; omega))
   rw [HSE.out] at HCS
   have HQ2:=Lib.hid (HQ.out.below hb2)
   have HW2:Hid (w2=((wr.alloc (.cells #[.int .u8 3,.int .u8 1] 5)).alloc (.cells #[.int .u8 (kb.toNat:Int),.int .u8 0] 5)).alloc (.cells #[.slice (some ⟨wr.heap.size,0,none⟩) 2 2,.slice (some ⟨w.heap.size,0,none⟩) 32 32,.slice qv nt cv,.slice (some ⟨wr.heap.size+1,0,none⟩) 2 2] 31)):=Lib.hid hw2
   have HIS:=Lib.hid (S5.info64b S hSl)
   have HZS:Hid ((bysA S5.z64).size=(bysA S).size):=Lib.hid (by rw [bysA_size,bysA_size,hSl]; rfl)
   obtain ⟨C,e0,hc,hC,h1,hD⟩:=dec_cases H hHl
   have HIC:=Lib.hid (info16 C hC)
   have HSC:Hid ((pt 0 0 0 0).size=C.size):=Lib.hid (by rw [hC,pt_size])
   have HCZ:=Lib.hid hC
   have H1:=Lib.hid h1
   have HD:=Lib.hid hD
   have HC:=Lib.hid hc
   have HSH:=Lib.hid hSH
   have HSL:=Lib.hid hSl
   clear hS hH hSH hSl hHl hkb hw2 hb0 hb2 hp2 hbw hC h1 hD hc HSE
   go_wp2_with fail
   rw [← HW2.out]
   refine HCS.out.mono ?_
   rintro e w3 ⟨rfl,hb⟩
   obtain ⟨w4,hw4⟩ : ∃ w4,w4=w3.alloc (.cells (bysA S) 51):=⟨_,rfl⟩
   have hb4:Below w2.heap.size w2 w4:=by rw [hw4]; exact hb.alloc hb.size _
   have HQ4:=Lib.hid (HQ2.out.below hb4)
   have hr4:w4.heap[w3.heap.size]? = some (.cells (bysA S) 51 (0,0)):=by rw [hw4]; exact Rg.heap_alloc_at _ _ _ rfl
   have HLD:Hid ((Instr.loadAt 22 (.pointer (some ⟨w3.heap.size,0,none⟩))).run Tryz.prog w4 = .ok (.agg (bysA H)) w4):=Lib.hid (by rw [← HSH.out]; exact load_mid hr4 (by rw [HSL.out]; decide))
   have HW4:=Lib.hid hw4
   have HF4:=Lib.hid (HF.out.below HQ4.out.be)
   clear hb hb4 hr4 hw4 HCS HW2 HQ HQ2
   go_upto_region 5 with (first | (rw [S5.z64_arr]; refine Rg.store_row_new rfl 51 _ _ rfl w3.heap.size rfl rfl 51 (bysA S5.z64) (bysA S) rfl HIS.out HZS.out (bysA_one _) ?_))
   rw [← HW4.out]
   go_wp2_with (first | refine l_arr rfl _ rfl _ _ _ _ rfl (by decide) ?_ | refine l_loadP rfl 22 _ rfl (.pointer (some ⟨w3.heap.size,0,none⟩)) rfl (.agg (bysA H)) HLD.out ?_)
   refine (HD.out w4 HF4.out).mono ?_
   rintro e w5 ⟨rfl,hb⟩
   obtain ⟨w6,hw6⟩ : ∃ w6,w6=w5.alloc (.cells C 175):=⟨_,rfl⟩
   have hb6:Below w4.heap.size w4 w6:=by rw [hw6]; exact hb.alloc hb.size _
   have HQ6:=Lib.hid (HQ4.out.below hb6)
   have HP6:Hid (w6.heap[w5.heap.size]? = some (.cells C 175 (0,0))):=Lib.hid (by rw [hw6]; exact Rg.heap_alloc_at _ _ _ rfl)
   have HF6:=Lib.hid (HF4.out.below hb6)
   have HW6:=Lib.hid hw6
   have hlt5:w.heap.size+1<w5.heap.size:=by have:=lt_of_heap HQ4.out.r1; have:=hb.size; omega
   clear hb hb6 hw6 HLD HW4
   go_upto_region 6 with (refine Rg.store_row_new rfl 175 _ _ rfl w5.heap.size rfl rfl 175 _ C rfl HIC.out HSC.out H1.out ?_)
   rw [← HW6.out]
   rcases HC.out with ⟨hd,hc2,rfl⟩ | ⟨hd,hc2,rfl⟩
   ·subst hc2
    obtain ⟨z,hz⟩ : ∃ z,z=decide (eightA (decA H)=(0,1)):=⟨_,rfl⟩
    have hgd:=Gd.dec hd
    obtain ⟨p8,hp8⟩ : ∃ p8,p8=tw (tw (tw (decP H))):=⟨_,rfl⟩
    have HE8:Hid (Calls Tryz.prog 233 #[.agg (ptv (decP H))] w6 fun e w'=>e = .returned (.agg (ptv p8))∧Below w6.heap.size w6 w'):=Lib.hid (by rw [hp8]; exact eight_p (decP H) hgd.z w6 HF6.out)
    have HZ:Hid (∀ x,ET x→Calls Tryz.prog 241 #[.agg (ptv p8),.agg (pt 0 0 0 0)] x fun e w'=>e = .returned (.bool z)∧Below x.heap.size x w'):=Lib.hid (fun x hx=>by rw [hz,hp8]; exact zero_gd hgd.eight x hx)
    have HKB:Hid (keyB H = !z):=Lib.hid (by unfold keyB; rw [hd,← hz]; rfl)
    have HPP:Hid (p8=ptP pub text k):=Lib.hid (by rw [hp8,HHE.out]; rfl)
    have HI8:=Lib.hid (infoPv p8)
    have HS8:Hid ((ptv (decP H)).size=(ptv p8).size):=Lib.hid (by rw [ptv_size,ptv_size])
    have HS0:Hid ((pt 0 0 0 0).size=(ptv p8).size):=Lib.hid (by rw [ptv_size,pt_size])
    clear hz hgd hd hp8
    go_wp2_with (refine l_loadP rfl 175 _ rfl (.pointer (some ⟨w5.heap.size,0,none⟩)) rfl (.agg (ptv (decP H))) (load_16 HP6.out HCZ.out) ?_)
    refine HE8.out.mono ?_
    rintro e w7 ⟨rfl,hb⟩
    have HQ7:=Lib.hid (HQ6.out.below hb)
    have HP7:=Lib.hid (Rp.row_le hb HP6.out)
    obtain ⟨w8,hw8⟩ : ∃ w8,w8=w7.setRow w5.heap.size (ptv p8):=⟨_,rfl⟩
    have HQ8:Hid (TrAt w pub w8):=Lib.hid (by rw [hw8]; exact ⟨(setRow_otherE _ _ (by omega)).trans HQ7.out.r0,(setRow_otherE _ _ (by omega)).trans HQ7.out.r1,Rg.below_setRow HQ7.out.be (by omega) _⟩)
    have HP8:Hid (w8.heap[w5.heap.size]? = some (.cells (ptv p8) 175 (0,0))):=Lib.hid (by rw [hw8]; exact setRow_heap _ _ _ _ _ _ HP7.out)
    have HF8:=Lib.hid (HF.out.below HQ8.out.be)
    have HW8:=Lib.hid hw8
    clear hb hw8
    go_upto_region 8 with (refine Rg.store_row rfl 175 _ _ rfl w5.heap.size rfl 175 (ptv (decP H)) (ptv p8) rfl HP7.out HI8.out HS8.out (ptv_one _) ?_)
    rw [← HW8.out]
    go_wp2_with (first | (refine l_loadP rfl 175 _ rfl (.pointer (some ⟨w5.heap.size,0,none⟩)) rfl (.agg (ptv p8)) (load_pv HP8.out) ?_) | (refine l_buildE rfl 175 _ rfl (pt 0 0 0 0) (by go_simp; kernel_rfl) ?_))
    refine (HZ.out w8 HF8.out).mono ?_
    rintro e w9 ⟨rfl,hb⟩
    have HQ9:=Lib.hid (HQ8.out.below hb)
    have HP9:=Lib.hid (Rp.row_le hb HP8.out)
    clear hb
    cases z with
    | true =>
      go_wp2_with fail
      exact ⟨⟨k+1,by omega,by go_num,Lib.hid (fun j hj=>by
       rcases Nat.lt_or_ge j k with h | h
       · exact HNO.out j h
       ·obtain rfl:j=k:=by omega
        rw [← HHE.out,HKB.out]; rfl),HQ9⟩,by simp [intOf]; omega⟩
    | false =>
      have HRR:Hid (R = .tuple #[.agg (ptv p8),.int .i64 0]):=Lib.hid (by
       have hk:=ptK_at pub text k hlt HNO.out (by rw [← HHE.out,HKB.out]; rfl)
       rw [HRE.out]
       unfold ptR
       rw [hk,HPP.out])
      go_wp2_with (first | (refine l_loadP rfl 175 _ rfl (.pointer (some ⟨w5.heap.size,0,none⟩)) rfl (.agg (ptv p8)) (load_pv HP9.out) ?_) | (refine Rg.store_row rfl 175 _ _ rfl (w.heap.size+1) rfl 175 (pt 0 0 0 0) (ptv p8) rfl HQ9.out.r1 HI8.out HS0.out (ptv_one _) ?_))
      refine bodyPost_ret (v := .tuple #[.agg (ptv p8),.int .i64 0]) (results_cell_slotE (P:=Tryz.prog) rfl _ _ (w.heap.size+1) 175 (ptv p8) (0,0) _ _ rfl (setRow_heap _ _ _ _ 175 _ HQ9.out.r1) rfl Tryz.underlying175 rfl HI8.out) rfl ⟨by rw [HRR.out],Rg.below_setRow HQ9.out.be (by omega) _⟩
   ·have HKB:Hid (keyB H=false):=Lib.hid (by unfold keyB; rw [hd]; rfl)
    clear hd
    go_wp2_with fail
    exact ⟨⟨k+1,by omega,by go_num,Lib.hid (fun j hj=>by
     rcases Nat.lt_or_ge j k with h | h
     · exact HNO.out j h
     ·obtain rfl:j=k:=by omega
      rw [← HHE.out]; exact HKB.out),HQ6⟩,by simp [intOf]; omega⟩
  ·have hltI : ¬ (k:Int)<256:=by omega
   have HRR:Hid (R = .tuple #[.agg (pt 0 0 0 0),.int .i64 15]):=Lib.hid (by
    have hk:=ptK_none pub text (fun j hj=>HNO.out j (by omega))
    rw [HRE.out]
    unfold ptR
    rw [hk])
   go_wp2_with (first | (refine l_buildE rfl 175 _ rfl (pt 0 0 0 0) (by go_simp; kernel_rfl) ?_) | (refine Rg.store_row rfl 175 _ _ rfl (w.heap.size+1) rfl 175 (pt 0 0 0 0) (pt 0 0 0 0) rfl HQ.out.r1 infoP0 rfl (wN_one _) ?_))
   refine bodyPost_ret (v := .tuple #[.agg (pt 0 0 0 0),.int .i64 15]) (results_cell_slotE (P:=Tryz.prog) rfl _ _ (w.heap.size+1) 175 (pt 0 0 0 0) (0,0) _ _ rfl (setRow_heap _ _ _ _ 175 _ HQ.out.r1) rfl Tryz.underlying175 rfl infoP0) rfl ⟨by rw [HRR.out],Rg.below_setRow HQ.out.be (by omega) _⟩
end Vr
end Go.Proofs.YtfodadedkilgdaaGreatDoor
namespace Go.Proofs.YtfodadedkilgdaaGreatDoor
set_option linter.unusedVariables false
set_option linter.unusedSimpArgs false
open Go.RowKit Bits Mem Sha
namespace Vr
open Fld hiding SubAt SubAt.start sub_any infoE
open Sca (sn Q OT sn_size infoSn sn_one sn_zero Q_pos Q_W4)
open Ed (FP fpow)
def markS (pub:List UInt8) (aa:List A2):List UInt8:=S5.sum (([3,2]::pub::aa.map encP) ++ [[0]]).flatten
theorem markS_length (pub:List UInt8) (aa:List A2):(markS pub aa).length=64:=S5.sum_length _
theorem markS_eq (pub:List UInt8) (aa:List A2):markS pub aa=S5.sum (([3,2]::pub::aa.map encP) ++ [[0]]).flatten:=by unfold markS; exact Eq.refl _
end Vr
end Go.Proofs.YtfodadedkilgdaaGreatDoor

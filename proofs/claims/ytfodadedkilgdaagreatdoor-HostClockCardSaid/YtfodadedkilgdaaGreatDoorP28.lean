/- A part of the proof. Plain; no condition. -/
import Derived.Test.YtfodadedkilgdaaGreatDoorP27
import Derived.Test.YtfodadedkilgdaaGreatDoorP22
import Derived.Test.YtfodadedkilgdaaGreatDoorP23
import Derived.Laws.StructEq
import Derived.Deep.CutBlock
namespace Go.Proofs.YtfodadedkilgdaaGreatDoor
set_option linter.unusedVariables false
set_option linter.unusedSimpArgs false
open Go.RowKit Bits Mem Sha
namespace Fld
open Ed (FP)
theorem all_words : ∀ (xs ys:List Nat),xs.length=ys.length→((List.range xs.length).all fun i=>xs.getD i 0==ys.getD i 0)=(xs==ys)
 | [],[],_=>rfl
 | x::xs,y::ys,h=>by
   have ih:=all_words xs ys (by simpa using h)
   rw [List.length_cons,List.range_succ_eq_map,List.all_cons,List.all_map]
   simp only [List.getD_cons_zero,Function.comp_def,List.getD_cons_succ,ih]
   simp [List.cons_beq_cons]
 | [],_::_,h=>by simp at h
 | _::_,[],h=>by simp at h
theorem beq_cast (m n:Nat):((m:Int)==(n:Int))=(m==n):=by
 rw [Bool.eq_iff_iff,beq_iff_eq,beq_iff_eq]
 omega
theorem ofInt64u (a:Nat) (ha:a<18446744073709551616):(BitVec.ofInt 64 (a:Int)).toNat=a:=by
 rw [BitVec.toNat_ofInt]
 omega
theorem u64_andN (a b:Nat) (ha:a<18446744073709551616) (hb:b<18446744073709551616):bits .and .u64 (a:Int) (b:Int)=((a &&& b:Nat):Int):=by
 show IntKind.u64.wrap ((BitVec.ofInt 64 (a:Int) &&& BitVec.ofInt 64 (b:Int)).toNat:Int)=_
 rw [BitVec.toNat_and,ofInt64u a ha,ofInt64u b hb,IntKind.wrap_u64]
 have:=Nat.lt_of_le_of_lt (Nat.and_le_left (n:=a) (m:=b)) ha
 omega
theorem sizeW (w:World):(sizeOf 23).run Tryz.prog w = .ok 1 w:=by
 obtain ⟨i0,h1,h2⟩ : ∃ i0,Tryz.prog.info? 23=some i0∧i0.size=1:=by
  have:(Tryz.prog.info? 23).map (·.size)=some 1:=by kernel_rfl
  obtain ⟨i0,h1,h2⟩:=Option.map_eq_some_iff.1 this
  exact ⟨i0,h1,h2⟩
 simp [sizeOf,typeInfo,h1,h2]
theorem run_equalN (d:Nat) (xs ys:List Nat) (w:World) (hx:xs.length=4) (hy:ys.length=4):(Op.equalIn (d+2) 173 (.agg (wN xs)) (.agg (wN ys))).run Tryz.prog w = .ok (xs==ys) w:=by
 rw [← all_words xs ys (hx.trans hy.symm),hx,List.range_eq_range',Op.equalIn]
 simp only [Sem.run_bind,run_underlying Tryz.underlying173,Result.andThen_ok,sizeW,Std.Legacy.Range.forIn_eq_forIn_range',Std.Legacy.Range.size,Nat.sub_zero,Nat.add_sub_cancel,Nat.div_one]
 have hl : ∀ i∈List.range' 0 4 1,i<4:=fun i hi=>by simpa using (List.mem_range'_1.1 hi).2
 generalize List.range' 0 4 1=l at hl ⊢
 induction l with
 | nil=>simp
 | cons i l ih =>
   have hi:i<4:=hl i (by simp)
   have px:(part 23 (wN xs) (i*1)).run Tryz.prog w = .ok (.int .u64 ((xs.getD i 0:Nat):Int)) w:=by
    simp [part,isAgg,run_underlying Tryz.underlying23,wN_get xs i (by omega)]
   have py:(part 23 (wN ys) (i*1)).run Tryz.prog w = .ok (.int .u64 ((ys.getD i 0:Nat):Int)) w:=by
    simp [part,isAgg,run_underlying Tryz.underlying23,wN_get ys i (by omega)]
   have pe:(Op.equalIn (d+1) 23 (.int .u64 ((xs.getD i 0:Nat):Int)) (.int .u64 ((ys.getD i 0:Nat):Int))).run Tryz.prog w = .ok (xs.getD i 0==ys.getD i 0) w:=by
    rw [run_equalIn_int w d 23 .u64 .u64 _ _ Tryz.underlying23,beq_cast]
   simp only [List.forIn_cons,Sem.run_bind,px,py,pe,Result.andThen_ok,List.all_cons]
   cases hb:(xs.getD i 0==ys.getD i 0)
   · simp
   ·simp only [Bool.not_true,Bool.false_eq_true,if_false,Sem.run_pure,Result.andThen_ok,Bool.true_and]
    exact ih fun j hj=>hl j (by simp [hj])
theorem guardEl:Tryz.prog.eqGuardType Tryz.prog.depth 173=false:=by kernel_rfl
@[go_sem] theorem run_guardEl (op:BinOp) (x y:Operand) (xs ys:Array Value) (w:World):(eqGuard op 173 x y (.agg xs) (.agg ys)).run Tryz.prog w = .ok () w:=run_eqGuard_agg (P:=Tryz.prog) w op 173 x y xs ys guardEl
@[go_sem] theorem run_equalEl (a b:FP) (w:World):(Op.equalIn 10000 173 (.agg (el a)) (.agg (el b))).run Tryz.prog w = .ok (decide (a=b)) w:=by
 unfold el
 refine (run_equalN 9998 _ _ w (words_length 4 _) (words_length 4 _)).trans ?_
 congr 1
 rw [Bool.eq_iff_iff,beq_iff_eq,decide_eq_true_iff]
 exact ⟨el_inj,fun h=>by rw [h]⟩
set_option maxRecDepth 100000 in
set_option maxHeartbeats 400000 in
theorem same_el (a b:FP) (w:World) (hF:FT w):Calls Tryz.prog 244 #[.agg (el a),.agg (el b)] w fun e w'=>e = .returned (.bool (decide (a=b)))∧Below w.heap.size w w':=by
 obtain ⟨w1,hw1⟩ : ∃ w1,w1=(w.alloc (.cells (el a) 173)).alloc (.cells (el b) 173):=⟨_,rfl⟩
 have hb1:Below w.heap.size w w1:=by rw [hw1]; exact ((Below.refl _ _).alloc (Nat.le_refl _) _).alloc (by simp) _
 have hr0:w1.heap[w.heap.size]? = some (.cells (el a) 173 (0,0)):=by rw [hw1]; exact (Rg.heap_alloc_past _ _ _ (by simp)).trans (Rg.heap_alloc_at w _ _ rfl)
 have hr1:w1.heap[w.heap.size+1]? = some (.cells (el b) 173 (0,0)):=by rw [hw1]; exact Rg.heap_alloc_at _ _ _ (by simp)
 have HF:=Lib.hid (hF.below hb1)
 have HB1:=Lib.hid hb1
 have HR0:=Lib.hid hr0
 have HR1:=Lib.hid hr1
 have HW1:=Lib.hid hw1
 clear hb1 hr0 hr1 hw1 hF
 go_enter Tryz.func244,Tryz.ntmps244
 go_upto_region 1 with fail
 rw [← HW1.out]
 refine Rc.region (w1.heap.size) 6 [Rc.F 1 (fun _ => .agg (el a)) (fun _ _ _=>True),Rc.F 3 (fun _ => .agg (el b)) (fun _ _ _=>True)] [] (by kernel_rfl) (Nat.le_refl _) (by kernel_rfl) ?_; intro p; simp only [List.take,List.drop]
 refine Rc.r_load rfl rfl _ _ rfl (.agg (el a)) (fun x hx=>load_el (row_in hx HR0.out (lt_of_heap HR0.out))) ?_; intro K hK; go_simp; refine hK _ ?_; clear hK K
 refine Rc.fK rfl rfl rfl rfl ?_ ?_
 ·intro x Fs hx hle hg K hK
  have HC:=Lib.hid (rest_el a x (HF.out.below (Rc.undrew hx)))
  clear hx hg
  go_wp2_with fail
  refine HC.out.mono ?_
  rintro e x' ⟨rfl,hb⟩
  go_wp2_with fail
  exact hK Rc.dflt x' hb (fun _ _ _ _=>trivial)
 intro K hK; go_simp; refine hK _ ?_; clear hK K
 refine Rc.r_load rfl rfl _ _ rfl (.agg (el b)) (fun x hx=>load_el (row_in hx HR1.out (lt_of_heap HR1.out))) ?_; intro K hK; go_simp; refine hK _ ?_; clear hK K
 refine Rc.fK rfl rfl rfl rfl ?_ ?_
 ·intro x Fs hx hle hg K hK
  have HC:=Lib.hid (rest_el b x (HF.out.below (Rc.undrew hx)))
  clear hx hg
  go_wp2_with fail
  refine HC.out.mono ?_
  rintro e x' ⟨rfl,hb⟩
  go_wp2_with fail
  exact hK Rc.dflt x' hb (fun _ _ _ _=>trivial)
 intro K hK; go_simp; refine hK _ ?_; clear hK K
 iterate 2 (refine Rc.rK rfl rfl ?_; intro K hK; apply Exists.intro; refine ⟨?_,?_⟩; (focus (intro x hx;  go_simp; (first | (fail) | ((try go_bits); (try go_simp); (try rfl))))); go_simp; refine hK _ ?_; clear hK K)
 refine Rc.done fun x Fs hx hle hg => ?_
 have HBX:=Lib.hid (HB1.out.trans ((Rc.undrew hx).mono HB1.out.size))
 clear hx hle hg
 go_wp2_with fail
 refine NoPanic.normal ?_
 go_wp2_with fail
 go_ret
 exact ⟨rfl,HBX.out⟩
set_option maxRecDepth 100000 in
set_option maxHeartbeats 400000 in
theorem odd_el (a:FP) (w:World) (hF:FT w):Calls Tryz.prog 94 #[.agg (el a)] w fun e w'=>e = .returned (.bool (decide (a.val%2=1)))∧Below w.heap.size w w':=by
 obtain ⟨w1,hw1⟩ : ∃ w1,w1=w.alloc (.cells (el a) 173):=⟨_,rfl⟩
 have hb1:Below w.heap.size w w1:=by rw [hw1]; exact (Below.refl _ _).alloc (Nat.le_refl _) _
 have hr0:w1.heap[w.heap.size]? = some (.cells (el a) 173 (0,0)):=by rw [hw1]; exact Rg.heap_alloc_at w _ _ rfl
 have HF:=Lib.hid (hF.below hb1)
 have HB1:=Lib.hid hb1
 have HR0:=Lib.hid hr0
 have HW1:=Lib.hid hw1
 have HIX:=Lib.hid (fun w=>run_idxE (words a.val 4) (words_length 4 _) 0 (by omega) w)
 obtain ⟨m,hm⟩ : ∃ m,m=(words a.val 4).getD 0 0:=⟨_,rfl⟩
 have hm2:m%2=a.val%2:=by rw [hm]; simp only [words,List.getD_cons_zero]; omega
 rw [← hm] at HIX
 have hm4:m<18446744073709551616:=by rw [hm]; exact (W4s.words a.val).at 0
 have hbit:bits .and .u64 (m:Int) 1=((m%2:Nat):Int):=by
  have:=u64_andN m 1 hm4 (by omega)
  rw [Nat.and_one_is_mod] at this
  exact this
 clear hb1 hr0 hw1 hF hm
 go_enter Tryz.func94,Tryz.ntmps94
 go_upto_region 1 with fail
 rw [← HW1.out]
 go_wp2_with (refine wpList_load_row rfl 173 _ rfl w.heap.size rfl 173 (el a) (0,0) _ HR0.out Tryz.underlying173 rfl (infoEl a) ?_)
 refine (rest_el a w1 HF.out).mono ?_
 rintro e w2 ⟨rfl,hb⟩
 have HB2:=Lib.hid (HB1.out.trans (hb.mono HB1.out.size))
 clear hb
 have hix : ∀ w,(Instr.index 173 (.agg (el a)) (.int .i64 0)).run Tryz.prog w = .ok (.int .u64 (m:Int)) w:=HIX.out
 go_wp2_with fail
 go_ret
 refine ⟨?_,HB2.out⟩
 show Ending.returned (Value.bool (((a.val:Int)%2)==1))=_
 congr 2
 rw [Bool.eq_iff_iff,beq_iff_eq,decide_eq_true_iff]
 omega
end Fld
end Go.Proofs.YtfodadedkilgdaaGreatDoor
namespace Go.Proofs.YtfodadedkilgdaaGreatDoor
open Go.RowKit
namespace Fld
open Ab Un
open Ed (FP)
def f1 (F:FP→FP):List U→U
 | [.fp a] => .fp (F a)
 | _ => .fp 0
def f2 (F:FP→FP→FP):List U→U
 | [.fp a,.fp b] => .fp (F a b)
 | _ => .fp 0
def b1 (F:FP→Bool):List U→U
 | [.fp a] => .bo (F a)
 | _ => .bo false
def b2 (F:FP→FP→Bool):List U→U
 | [.fp a,.fp b] => .bo (F a b)
 | _ => .bo false
theorem f1_is (F:FP→FP) (us:List U):srtU (f1 F us)=5:=by unfold f1; split <;> rfl
theorem f2_is (F:FP→FP→FP) (us:List U):srtU (f2 F us)=5:=by unfold f2; split <;> rfl
theorem b1_is (F:FP→Bool) (us:List U):srtU (b1 F us)=0:=by unfold b1; split <;> rfl
theorem b2_is (F:FP→FP→Bool) (us:List U):srtU (b2 F us)=0:=by unfold b2; split <;> rfl
def fldG (M:List (Nat×(List U→U))):List (Nat×(List U→U)):=(5,f2 (· - ·))::(5,f2 (· + ·))::(5,f2 (· * ·))::(5,f1 (- ·))::(0,b2 fun a b=>decide (a=b))::(0,b1 fun a=>decide (a.val%2=1))::(5,fun _ => .fp 1)::(0,b1 fun a=>decide (a=0))::M
theorem fldG_ok {M:List (Nat×(List U→U))} (h:FnsOk H M):FnsOk H (fldG M):=⟨f2_is _,f2_is _,f2_is _,f1_is _,b2_is _,b1_is _,fun _=>rfl,b1_is _,h⟩
def zer4:List K := [.ci .u64 0,.ci .u64 0,.ci .u64 0,.ci .u64 0]
def fldF (L:List Fm):List Fm:=⟨138,[.ag [5],.ag [5]],.ag [0]⟩::⟨137,[.ag [5],.ag [5]],.ag [1]⟩::⟨93,[.ag [5],.ag [5]],.ag [2]⟩::⟨180,[.ag [5]],.ag [3]⟩::⟨244,[.ag [5],.ag [5]],.b 4⟩::⟨244,[.ag [5],.z zer4],.b 7⟩::⟨94,[.ag [5]],.b 5⟩::⟨178,[.k (.ci .u64 1)],.ag [6]⟩::L
theorem fldF_ok {ρ:List U} {M:List (Nat×(List U→U))} {L:List Fm} {w:World} (hF:FT w) (h:FmsOk Tryz.prog w (R:=⟨ρ,fldG M⟩) (H:=H) L):FmsOk Tryz.prog w (R:=⟨ρ,fldG M⟩) (H:=H) (fldF L) :=
 ⟨fun y hb a b=>sub_el a b y (hF.below hb),fun y hb a b=>add_el a b y (hF.below hb),fun y hb a b=>mul_el a b y (hF.below hb),fun y hb a=>neg_el a y (hF.below hb),fun y hb a b=>same_el a b y (hF.below hb),fun y hb a=>same_el a 0 y (hF.below hb),fun y hb a=>odd_el a y (hF.below hb),fun y hb=>small_any 1 (by decide) y,h⟩
def fldO:List Om := [⟨kBin .eql 173,[.ag [5],.z zer4],.b 7⟩]
theorem fldO_ok {ρ:List U} {M:List (Nat×(List U→U))} {w:World}:OmsOk Tryz.prog w (R:=⟨ρ,fldG M⟩) (H:=H) fldO :=
 ⟨fun y hb x a o hk hv=>kBin_ok hk hv fun ox oy=>by
  have h1:(Op.equalIn Op.maxDepth 173 (.agg (el x)) (.agg (el 0))).run Tryz.prog y = .ok (decide (x=0)) y:=run_equalEl x 0 y
  show ((do eqGuard .eql 173 ox oy (.agg (el x)) (.agg (el 0)); binOp .eql 173 (.agg (el x)) (.agg (el 0)):Sem Value)).run Tryz.prog y = .ok (.bool (decide (x=0))) y
  have hg:Tryz.prog.eqGuardType Tryz.prog.depth 173=false:=by kernel_rfl
  simp [eqGuard,hg,binOp,Op.equal,h1],trivial⟩
theorem base:Base Tryz.prog tiL:=⟨ti_all,by kernel_rfl⟩
noncomputable abbrev fldY (gl:List (Nat×List Tm)) (L:List Fm):Ty H:=⟨Tryz.prog,tiL,gl,fldF L,fldO,[]⟩
abbrev fldR (ρ:List U) (M:List (Nat×(List U→U))):Re H:=⟨ρ,fldG M⟩
theorem fldOk {ρ:List U} {M:List (Nat×(List U→U))} {gl:List (Nat×List Tm)} {L:List Fm} {w:World} (hF:FT w) (hM:FnsOk H M) (ht:TbOk (fldR ρ M) w gl) (h:FmsOk Tryz.prog w (fldR ρ M) L):(fldY gl L).Ok (fldR ρ M) w:=⟨base,fldG_ok hM,ht,fldF_ok hF h,fldO_ok⟩
theorem fldE (ρ:List U) (gl:List (Nat×List Tm)) (L:List Fm) {w:World} (hF:FT w) (ht:TbOk (fldR ρ []) w gl) (h:FmsOk Tryz.prog w (fldR ρ []) L):(fldY gl L).Ok (fldR ρ []) w:=fldOk hF trivial ht h
end Fld
end Go.Proofs.YtfodadedkilgdaaGreatDoor
namespace Go.Proofs.YtfodadedkilgdaaGreatDoor
open Go.RowKit
namespace Fld
open Ab Un
open Ed (FP)
theorem one_el (w:World) (hF:ET w):Calls Tryz.prog 136 #[] w fun e w'=>e = .returned (.agg (el 1))∧Below w.heap.size w w' :=
 Ty.one (fldE [] [] [] hF.ft trivial trivial) Tryz.func136 [] (by kernel_rfl)
theorem of_el (u v:FP) (w:World) (hF:ET w):Calls Tryz.prog 86 #[.agg (el u),.agg (el v)] w fun e w'=>e = .returned (.agg (pt u v 1 (u*v)))∧Below w.heap.size w w' :=
 Ty.one (fldE [.fp u,.fp v] [] [⟨136,[],.ag [6]⟩] hF.ft trivial ⟨fun y hb=>one_el y (hF.below hb),trivial⟩) Tryz.func86 [.ag [.at 0],.ag [.at 1]] (by kernel_rfl)
theorem twice_el (x1 y1 z1 t1:FP) (w:World) (hF:ET w):Calls Tryz.prog 88 #[.agg (pt x1 y1 z1 t1)] w fun e w'=>e = .returned (.agg (pt ((((x1*x1)+(y1*y1))-((x1+y1)*(x1+y1)))*(((z1*z1)+(z1*z1))+((x1*x1)-(y1*y1)))) (((x1*x1)-(y1*y1))*((x1*x1)+(y1*y1))) ((((z1*z1)+(z1*z1))+((x1*x1)-(y1*y1)))*((x1*x1)-(y1*y1))) ((((x1*x1)+(y1*y1))-((x1+y1)*(x1+y1)))*((x1*x1)+(y1*y1)))))∧Below w.heap.size w w' :=
 Ty.one (fldE [.fp x1,.fp y1,.fp z1,.fp t1] [] [] hF.ft trivial trivial) Tryz.func88 [.ag [.at 0,.at 1,.at 2,.at 3]] (by kernel_rfl)
abbrev a4 (i:Nat):List Tm := [.at i,.at (i+1),.at (i+2),.at (i+3)]
theorem whole_any (x y z t:FP) (w:World) (hF:ET w):Calls Tryz.prog 87 #[.agg (pt x y z t)] w fun e w'=>e = .returned (if z=0 then .agg (pt 0 1 1 0) else .agg (pt x y z t))∧Below w.heap.size w w' :=
 (Ty.runs (fldE [.fp x,.fp y,.fp z,.fp t] [] [⟨136,[],.ag [6]⟩] hF.ft trivial ⟨fun y hb=>one_el y (hF.below hb),trivial⟩) Tryz.func87 [.ag (a4 0)] (L := [⟨[(decide (z=0),true)],fun _ => .agg (pt 0 1 1 0),none⟩,⟨[(decide (z=0),false)],fun _ => .agg (pt x y z t),none⟩]) (by kernel_rfl)).mono fun e w' h=>⟨by
  rcases h.1 with ⟨⟨h1,_⟩,h2⟩ | ⟨⟨h1,_⟩,h2⟩
  · rw [if_pos (of_decide_eq_true h1)]; exact h2
  · rw [if_neg (of_decide_eq_false h1)]; exact h2,h.2⟩
theorem whole_pt (x y z t:FP) (hz:z≠0) (w:World) (hF:ET w):Calls Tryz.prog 87 #[.agg (pt x y z t)] w fun e w'=>e = .returned (.agg (pt x y z t))∧Below w.heap.size w w':=by
 have:=whole_any x y z t w hF
 rwa [if_neg hz] at this
theorem whole_zero (x y t:FP) (w:World) (hF:ET w):Calls Tryz.prog 87 #[.agg (pt x y 0 t)] w fun e w'=>e = .returned (.agg (pt 0 1 1 0))∧Below w.heap.size w w':=by
 have:=whole_any x y 0 t w hF
 rwa [if_pos rfl] at this
abbrev whF (i j:Nat):Fm:=⟨87,[.xa (a4 i)],.xa (a4 j)⟩
theorem add_pt (x1 y1 z1 t1 x2 y2 z2 t2:FP) (w:World) (hF:ET w) (nz_z1:z1≠0) (nz_z2:z2≠0):Calls Tryz.prog 89 #[.agg (pt x1 y1 z1 t1),.agg (pt x2 y2 z2 t2)] w fun e w'=>e = .returned (.agg (pt ((((y1+x1)*(y2+x2))-((y1-x1)*(y2-x2)))*(((z1+z1)*z2)-((t1*dd)*t2))) ((((z1+z1)*z2)+((t1*dd)*t2))*(((y1+x1)*(y2+x2))+((y1-x1)*(y2-x2)))) ((((z1+z1)*z2)-((t1*dd)*t2))*(((z1+z1)*z2)+((t1*dd)*t2))) ((((y1+x1)*(y2+x2))-((y1-x1)*(y2-x2)))*(((y1+x1)*(y2+x2))+((y1-x1)*(y2-x2))))))∧Below w.heap.size w w' :=
 Ty.one (fldE [.fp x1,.fp y1,.fp z1,.fp t1,.fp x2,.fp y2,.fp z2,.fp t2,.fp dd] [(4,[.at 8])] [whF 0 0,whF 4 4] hF.ft ⟨hF.gd,trivial⟩ ⟨fun y hb=>whole_pt x1 y1 z1 t1 nz_z1 y (hF.below hb),fun y hb=>whole_pt x2 y2 z2 t2 nz_z2 y (hF.below hb),trivial⟩) Tryz.func89 [.ag (a4 0),.ag (a4 4)] (by kernel_rfl)
theorem psame_gen (u1 v1 c1 s1 u2 v2 c2 s2 x1 y1 z1 t1 x2 y2 z2 t2:FP) (w:World) (hF:ET w) (hw1 : ∀ x,ET x→Calls Tryz.prog 87 #[.agg (pt u1 v1 c1 s1)] x fun e w'=>e = .returned (.agg (pt x1 y1 z1 t1))∧Below x.heap.size x w') (hw2 : ∀ x,ET x→Calls Tryz.prog 87 #[.agg (pt u2 v2 c2 s2)] x fun e w'=>e = .returned (.agg (pt x2 y2 z2 t2))∧Below x.heap.size x w'):Calls Tryz.prog 241 #[.agg (pt u1 v1 c1 s1),.agg (pt u2 v2 c2 s2)] w fun e w'=>e = .returned (.bool (decide (x1*z2=x2*z1∧y1*z2=y2*z1)))∧Below w.heap.size w w':=by
 rw [show decide (x1*z2=x2*z1∧y1*z2=y2*z1)=(match decide (x1*z2=x2*z1) with | true=>decide (y1*z2=y2*z1) | false=>false) by by_cases h:x1*z2=x2*z1 <;> simp [h]]
 exact Ty.one (fldE [.fp u1,.fp v1,.fp c1,.fp s1,.fp u2,.fp v2,.fp c2,.fp s2,.fp x1,.fp y1,.fp z1,.fp t1,.fp x2,.fp y2,.fp z2,.fp t2] [] [whF 0 8,whF 4 12] hF.ft trivial ⟨fun y hb=>hw1 y (hF.below hb),fun y hb=>hw2 y (hF.below hb),trivial⟩) Tryz.func241 [.ag (a4 0),.ag (a4 4)] (by kernel_rfl)
theorem psame_zero (x1 y1 z1 t1:FP) (w:World) (hF:ET w) (nz_z1:z1≠0):Calls Tryz.prog 241 #[.agg (pt x1 y1 z1 t1),.agg (pt 0 0 0 0)] w fun e w'=>e = .returned (.bool (decide (x1*1=0*z1∧y1*1=1*z1)))∧Below w.heap.size w w' :=
 psame_gen x1 y1 z1 t1 0 0 0 0 x1 y1 z1 t1 0 1 1 0 w hF (fun x hx=>whole_pt x1 y1 z1 t1 nz_z1 x hx) (fun x hx=>whole_zero 0 0 0 x hx)
end Fld
end Go.Proofs.YtfodadedkilgdaaGreatDoor
namespace Go.Proofs.YtfodadedkilgdaaGreatDoor
set_option linter.unusedVariables false
set_option linter.unusedSimpArgs false
open Go.RowKit Bits Mem Sha
namespace Fld
open Ed (FP)
structure P4 where
 x:FP
 y:FP
 z:FP
 t:FP
def ptv (p:P4):Array Value:=pt p.x p.y p.z p.t
def tw (p:P4):P4:=⟨(p.x*p.x+p.y*p.y-(p.x+p.y)*(p.x+p.y))*(p.z*p.z+p.z*p.z+(p.x*p.x-p.y*p.y)),(p.x*p.x-p.y*p.y)*(p.x*p.x+p.y*p.y),(p.z*p.z+p.z*p.z+(p.x*p.x-p.y*p.y))*(p.x*p.x-p.y*p.y),(p.x*p.x+p.y*p.y-(p.x+p.y)*(p.x+p.y))*(p.x*p.x+p.y*p.y)⟩
def pl (p q:P4):P4:=⟨((p.y+p.x)*(q.y+q.x)-(p.y-p.x)*(q.y-q.x))*((p.z+p.z)*q.z-p.t*dd*q.t),((p.z+p.z)*q.z+p.t*dd*q.t)*((p.y+p.x)*(q.y+q.x)+(p.y-p.x)*(q.y-q.x)),((p.z+p.z)*q.z-p.t*dd*q.t)*((p.z+p.z)*q.z+p.t*dd*q.t),((p.y+p.x)*(q.y+q.x)-(p.y-p.x)*(q.y-q.x))*((p.y+p.x)*(q.y+q.x)+(p.y-p.x)*(q.y-q.x))⟩
def z4:P4:=⟨0,1,1,0⟩
theorem twice_p (p:P4) (w:World) (hF:ET w):Calls Tryz.prog 88 #[.agg (ptv p)] w fun e w'=>e = .returned (.agg (ptv (tw p)))∧Below w.heap.size w w':=twice_el p.x p.y p.z p.t w hF
theorem add_p (p q:P4) (hp:p.z≠0) (hq:q.z≠0) (w:World) (hF:ET w):Calls Tryz.prog 89 #[.agg (ptv p),.agg (ptv q)] w fun e w'=>e = .returned (.agg (ptv (pl p q)))∧Below w.heap.size w w':=add_pt p.x p.y p.z p.t q.x q.y q.z q.t w hF hp hq
theorem whole_p (p:P4) (hp:p.z≠0) (w:World) (hF:ET w):Calls Tryz.prog 87 #[.agg (ptv p)] w fun e w'=>e = .returned (.agg (ptv p))∧Below w.heap.size w w':=whole_pt p.x p.y p.z p.t hp w hF
theorem whole_0 (w:World) (hF:ET w):Calls Tryz.prog 87 #[.agg (pt 0 0 0 0)] w fun e w'=>e = .returned (.agg (ptv z4))∧Below w.heap.size w w':=whole_zero 0 0 0 w hF
theorem ptv_size (p:P4):(ptv p).size=16:=pt_size _ _ _ _
theorem infoPv (p:P4):(Tryz.prog.info? 175).map (·.size)=some (ptv p).size:=infoPt _ _ _ _
theorem ptv_one (p:P4):(ptv p).all (·.oneCell')=true:=wN_one _
theorem load_pv {w:World} {b:Nat} {p:P4} {ty:TypeId} {f:Nat×Nat} (h:w.heap[b]? = some (.cells (ptv p) ty f)):(Instr.loadAt 175 (.pointer (some ⟨b,0,none⟩))).run Tryz.prog w = .ok (.agg (ptv p)) w:=load_pt h
def Good (p:P4) (x y:FP):Prop:=Ed.On Ed.dC x y∧Ed.Ex p.x p.y p.z p.t x y
theorem Good.z {p:P4} {x y:FP} (h:Good p x y):p.z≠0:=h.2.hz
theorem Good.zero:Good z4 0 1:=⟨Ed.On.zero,⟨by decide,by decide,by decide,by decide⟩⟩
def sumX (x1 y1 x2 y2:FP):FP:=(x1*y2+x2*y1)*Ed.fpow (1+Ed.dC*x1*x2*y1*y2) (P-2)
def sumY (x1 y1 x2 y2:FP):FP:=(y1*y2+x1*x2)*Ed.fpow (1-Ed.dC*x1*x2*y1*y2) (P-2)
theorem plus_sum {x1 y1 x2 y2:FP} (h1:Ed.On Ed.dC x1 y1) (h2:Ed.On Ed.dC x2 y2):Ed.Plus Ed.dC x1 y1 x2 y2 (sumX x1 y1 x2 y2) (sumY x1 y1 x2 y2):=by
 have e1:=Ed.inv_fpow Ed.prP (Ed.fl.left h1 h2)
 have e2:=Ed.inv_fpow Ed.prP (Ed.fl.right h1 h2)
 unfold sumX sumY
 generalize Ed.fpow (1+Ed.dC*x1*x2*y1*y2) (P-2)=u at e1 ⊢
 generalize Ed.fpow (1-Ed.dC*x1*x2*y1*y2) (P-2)=v at e2 ⊢
 exact ⟨Ed.ring_den e1,Ed.ring_den e2⟩
theorem Good.tw {p:P4} {x y:FP} (h:Good p x y):Good (tw p) (sumX x y x y) (sumY x y x y) :=
 ⟨Ed.fl.on h.1 h.1 (plus_sum h.1 h.1),h.2.twice Ed.fl h.1 (plus_sum h.1 h.1)⟩
theorem Good.pl {p q:P4} {x1 y1 x2 y2:FP} (h:Good p x1 y1) (h':Good q x2 y2):Good (pl p q) (sumX x1 y1 x2 y2) (sumY x1 y1 x2 y2) :=
 ⟨Ed.fl.on h.1 h'.1 (plus_sum h.1 h'.1),h.2.add Ed.fl h.1 h'.1 (plus_sum h.1 h'.1) h'.2⟩
def bitB (l:List UInt8) (i:Nat):Bool:=decide ((bt l (i / 8)).toNat / 2^(i%8)%2=1)
def tmsK (p:P4) (l:List UInt8):Nat→P4
 | 0=>z4
 | k+1=>if bitB l (255-k) then Fld.pl (Fld.tw (tmsK p l k)) p else Fld.tw (tmsK p l k)
def tmsA (x y:FP) (l:List UInt8) (n:Nat):Nat→FP×FP
 | 0=>(0,1)
 | k+1 =>
   let r:=tmsA x y l n k
   let s:=(sumX r.1 r.2 r.1 r.2,sumY r.1 r.2 r.1 r.2)
   if bitB l (n-1-k) then (sumX s.1 s.2 x y,sumY s.1 s.2 x y) else s
theorem Good.tms {p:P4} {x y:FP} (h:Good p x y) (l:List UInt8) : ∀ k,Good (tmsK p l k) (tmsA x y l 256 k).1 (tmsA x y l 256 k).2
 | 0=>Good.zero
 | k+1=>by
   have ih:=Good.tms h l k
   unfold tmsK tmsA
   dsimp only
   rw [show 256-1-k=255-k by omega]
   by_cases hb:bitB l (255-k)=true
   · rw [if_pos hb,if_pos hb]; exact ih.tw.pl h
   · rw [if_neg hb,if_neg hb]; exact ih.tw
end Fld
end Go.Proofs.YtfodadedkilgdaaGreatDoor
namespace Go.Proofs.YtfodadedkilgdaaGreatDoor
set_option linter.unusedVariables false
set_option linter.unusedSimpArgs false
open Go.RowKit Bits Mem Sha
namespace Fld
open Ed (FP)
set_option maxRecDepth 100000 in
set_option maxHeartbeats 400000 in
theorem eight_p (p:P4) (hz:p.z≠0) (w:World) (hF:ET w):Calls Tryz.prog 233 #[.agg (ptv p)] w fun e w'=>e = .returned (.agg (ptv (tw (tw (tw p)))))∧Below w.heap.size w w':=by
 obtain ⟨w1,hw1⟩ : ∃ w1,w1=(w.alloc (.cells (ptv p) 175)).alloc (.cells (pt 0 0 0 0) 175):=⟨_,rfl⟩
 have hb1:Below w.heap.size w w1:=by rw [hw1]; exact ((Below.refl _ _).alloc (Nat.le_refl _) _).alloc (by simp) _
 have hr0:w1.heap[w.heap.size]? = some (.cells (ptv p) 175 (0,0)):=by rw [hw1]; exact (Rg.heap_alloc_past _ _ _ (by simp)).trans (Rg.heap_alloc_at w _ _ rfl)
 have hr1:w1.heap[w.heap.size+1]? = some (.cells (pt 0 0 0 0) 175 (0,0)):=by rw [hw1]; exact Rg.heap_alloc_at _ _ _ (by simp)
 have HF1:=Lib.hid (hF.below hb1)
 have HB1:=Lib.hid hb1
 have HR0:=Lib.hid hr0
 have HR1:=Lib.hid hr1
 have HW1:=Lib.hid hw1
 have HZ:=Lib.hid hz
 clear hb1 hr0 hr1 hw1 hF hz
 obtain ⟨q,hq⟩ : ∃ q,q=tw (tw (tw p)):=⟨_,rfl⟩
 rw [← hq]
 have HT3:Hid (∀ x,ET x→Calls Tryz.prog 88 #[.agg (ptv (tw (tw p)))] x fun e w'=>e = .returned (.agg (ptv q))∧Below x.heap.size x w'):=Lib.hid (fun x hx=>by rw [hq]; exact twice_p _ x hx)
 obtain ⟨r,hr⟩ : ∃ r,r=tw (tw p):=⟨_,rfl⟩
 rw [← hr] at HT3
 have HT2:Hid (∀ x,ET x→Calls Tryz.prog 88 #[.agg (ptv (tw p))] x fun e w'=>e = .returned (.agg (ptv r))∧Below x.heap.size x w'):=Lib.hid (fun x hx=>by rw [hr]; exact twice_p _ x hx)
 obtain ⟨s,hs⟩ : ∃ s,s=tw p:=⟨_,rfl⟩
 rw [← hs] at HT2
 have HT1:Hid (∀ x,ET x→Calls Tryz.prog 88 #[.agg (ptv p)] x fun e w'=>e = .returned (.agg (ptv s))∧Below x.heap.size x w'):=Lib.hid (fun x hx=>by rw [hs]; exact twice_p _ x hx)
 have HSZ:Hid ((pt 0 0 0 0).size=(ptv q).size):=Lib.hid (by rw [pt_size,ptv_size])
 clear hq hr hs
 go_enter Tryz.func233,Tryz.ntmps233
 go_upto_region 1 with fail
 rw [pt_zero,← HW1.out]
 go_wp2_with (refine l_loadP rfl _ _ rfl (.pointer (some ⟨w.heap.size,0,none⟩)) rfl (.agg (ptv p)) (load_pv HR0.out) ?_)
 refine (whole_p p HZ.out w1 HF1.out).mono ?_
 rintro e w2 ⟨rfl,hb⟩
 have HF2:=Lib.hid (HF1.out.below hb)
 have HB2:=Lib.hid (HB1.out.trans (hb.mono HB1.out.size))
 have HR2:=Lib.hid (Rp.row_le hb HR1.out)
 clear hb
 go_wp2_with fail
 refine (HT1.out w2 HF2.out).mono ?_
 rintro e w3 ⟨rfl,hb⟩
 have HF3:=Lib.hid (HF2.out.below hb)
 have HB3:=Lib.hid (HB2.out.trans (hb.mono HB2.out.size))
 have HR3:=Lib.hid (Rp.row_le hb HR2.out)
 clear hb
 go_wp2_with fail
 refine (HT2.out w3 HF3.out).mono ?_
 rintro e w4 ⟨rfl,hb⟩
 have HF4:=Lib.hid (HF3.out.below hb)
 have HB4:=Lib.hid (HB3.out.trans (hb.mono HB3.out.size))
 have HR4:=Lib.hid (Rp.row_le hb HR3.out)
 clear hb
 go_wp2_with fail
 refine (HT3.out w4 HF4.out).mono ?_
 rintro e w5 ⟨rfl,hb⟩
 have HB5:=Lib.hid (HB4.out.trans (hb.mono HB4.out.size))
 have HR5:=Lib.hid (Rp.row_le hb HR4.out)
 clear hb
 go_wp2_with (refine Rg.store_row rfl 175 _ _ rfl (w.heap.size+1) rfl 175 (pt 0 0 0 0) (ptv q) rfl HR5.out (infoPv q) HSZ.out (ptv_one q) ?_)
 refine bodyPost_ret (v := .agg (ptv q)) (results_cell_row (P:=Tryz.prog) rfl _ _ (w.heap.size+1) 175 (ptv q) (0,0) _ rfl (setRow_heap _ _ _ _ 175 _ HR5.out) Tryz.underlying175 rfl (infoPv q)) rfl ⟨rfl,Rg.below_setRow HB5.out (by omega) _⟩
theorem ofInt8 (a:Nat) (ha:a<256):(BitVec.ofInt 8 (a:Int)).toNat=a:=by
 rw [BitVec.toNat_ofInt]
 omega
theorem u8_andN (a b:Nat) (ha:a<256) (hb:b<256):bits .and .u8 (a:Int) (b:Int)=((a &&& b:Nat):Int):=by
 show IntKind.u8.wrap ((BitVec.ofInt 8 (a:Int) &&& BitVec.ofInt 8 (b:Int)).toNat:Int)=_
 rw [BitVec.toNat_and,ofInt8 a ha,ofInt8 b hb,IntKind.wrap_u8]
 have:=Nat.lt_of_le_of_lt (Nat.and_le_left (n:=a) (m:=b)) ha
 omega
theorem bit_u8 (m e:Nat) (hm:m<256):bits .and .u8 ((m:Int) / (2:Int)^e) 1=((m / 2^e%2:Nat):Int):=by
 have h1:=Nat.div_le_self m (2^e)
 have e1:(m:Int) / (2:Int)^e=((m / 2^e:Nat):Int):=by simp
 rw [e1]
 have:=u8_andN (m / 2^e) 1 (by omega) (by omega)
 rw [Nat.and_one_is_mod] at this
 exact this
structure TmAt (w:World) (p r:P4) (L:List UInt8) (g h:Nat) (wr:World):Prop where
 rp:wr.heap[g]? = some (.cells (ptv p) 175 (0,0))
 rn:wr.heap[g+1]? = some (.cells (bysA L) 22 (0,0))
 ro:wr.heap[g+1+1]? = some (.cells (pt 0 0 0 0) 175 (0,0))
 rr:wr.heap[h]? = some (.cells (ptv r) 175 (0,0))
 lt:g+1+1<h
 be:Below w.heap.size w wr
theorem TmAt.next {w wr:World} {p r:P4} {L:List UInt8} {g h:Nat} (hh:TmAt w p r L g h wr) (hg:g=w.heap.size) {x:World} (hb:Below wr.heap.size wr x) (r':P4):TmAt w p r' L g h (x.setRow h (ptv r')):=by
 have hl:=hh.lt
 have hbe:=hh.be.trans (hb.mono hh.be.size)
 exact ⟨(setRow_otherE _ _ (by omega)).trans (Rp.row_le hb hh.rp),(setRow_otherE _ _ (by omega)).trans (Rp.row_le hb hh.rn),(setRow_otherE _ _ (by omega)).trans (Rp.row_le hb hh.ro),setRow_heap _ _ _ _ _ _ (Rp.row_le hb hh.rr),hl,Rg.below_setRow hbe (by omega) _⟩
set_option maxRecDepth 100000 in
set_option maxHeartbeats 2000000 in
theorem times_p (p:P4) (L:List UInt8) (hL:L.length=32) (hz:p.z≠0) (hK : ∀ k,(tmsK p L k).z≠0∧(tw (tmsK p L k)).z≠0) (w:World) (hF:ET w):Calls Tryz.prog 54 #[.agg (ptv p),.agg (bysA L)] w fun e w'=>e = .returned (.agg (ptv (tmsK p L 256)))∧Below w.heap.size w w':=by
 obtain ⟨w1,hw1⟩ : ∃ w1,w1=((w.alloc (.cells (ptv p) 175)).alloc (.cells (bysA L) 22)).alloc (.cells (pt 0 0 0 0) 175):=⟨_,rfl⟩
 have hb1:Below w.heap.size w w1:=by rw [hw1]; exact (((Below.refl _ _).alloc (Nat.le_refl _) _).alloc (by simp) _).alloc (by simp; try omega) _
 have hr0:w1.heap[w.heap.size]? = some (.cells (ptv p) 175 (0,0)):=by rw [hw1]; exact (Rg.heap_alloc_past _ _ _ (by simp; try omega)).trans ((Rg.heap_alloc_past _ _ _ (by simp)).trans (Rg.heap_alloc_at w _ _ rfl))
 have hr1:w1.heap[w.heap.size+1]? = some (.cells (bysA L) 22 (0,0)):=by rw [hw1]; exact (Rg.heap_alloc_past _ _ _ (by simp)).trans (Rg.heap_alloc_at _ _ _ (by simp))
 have hr2:w1.heap[w.heap.size+1+1]? = some (.cells (pt 0 0 0 0) 175 (0,0)):=by rw [hw1]; exact Rg.heap_alloc_at _ _ _ (by simp)
 have hs1:w1.heap.size=w.heap.size+1+1+1:=by rw [hw1]; simp
 have HF1:=Lib.hid (hF.below hb1)
 have HB1:=Lib.hid hb1
 have HR0:=Lib.hid hr0
 have HR1:=Lib.hid hr1
 have HR2:=Lib.hid hr2
 have HW1:=Lib.hid hw1
 have HZ:=Lib.hid hz
 have HK:=Lib.hid hK
 have HL:=Lib.hid hL
 have HF:=Lib.hid hF
 have HS1:=Lib.hid hs1
 clear hb1 hr0 hr1 hr2 hw1 hF hz hK hL hs1
 have HB0:Hid (Tryz.prog.built 175 []=some (pt 0 0 0 0)):=Lib.hid (by kernel_rfl)
 go_enter Tryz.func54,Tryz.ntmps54
 go_upto_region 1 with fail
 rw [pt_zero,← HW1.out]
 go_wp2_with fail
 rw [pt_zero]
 refine (whole_0 w1 HF1.out).mono ?_
 rintro e w2 ⟨rfl,hb2⟩
 obtain ⟨w3,hw3⟩ : ∃ w3,w3=w2.alloc (.cells (ptv z4) 175):=⟨_,rfl⟩
 have hb3:Below w2.heap.size w2 w3:=by rw [hw3]; exact (Below.refl _ _).alloc (Nat.le_refl _) _
 have hr3:w3.heap[w2.heap.size]? = some (.cells (ptv z4) 175 (0,0)):=by rw [hw3]; exact heap_alloc_new w2 _
 have hb13:=hb2.trans (hb3.mono hb2.size)
 have hlt:w.heap.size+1+1<w2.heap.size:=by have:=HS1.out; have:=hb2.size; omega
 have HF3:=Lib.hid (HF1.out.below hb13)
 have HT3:Hid (TmAt w p z4 L w.heap.size w2.heap.size w3):=Lib.hid ⟨Rp.row_le hb13 HR0.out,Rp.row_le hb13 HR1.out,Rp.row_le hb13 HR2.out,hr3,hlt,HB1.out.trans (hb13.mono HB1.out.size)⟩
 have HW3:=Lib.hid hw3
 have HSZ:Hid ((pt 0 0 0 0).size=(ptv z4).size):=Lib.hid (by rw [pt_size,ptv_size])
 clear hb2 hb3 hr3 hb13 hw3 hlt
 go_upto_region 2 with (refine Rg.store_row_new rfl 175 _ _ rfl w2.heap.size rfl rfl 175 _ (ptv z4) rfl (infoPv z4) HSZ.out (ptv_one z4) ?_)
 rw [← HW3.out]
 obtain ⟨h,hh⟩ : ∃ h,h=w2.heap.size:=⟨_,rfl⟩
 rw [← hh] at HT3 ⊢
 obtain ⟨g,hg⟩ : ∃ g,g=w.heap.size:=⟨_,rfl⟩
 rw [← hg] at HT3 ⊢
 have HG:=Lib.hid hg
 clear hg hh HW3
 go_wp2_with (refine l_loadP rfl _ _ rfl (.pointer (some ⟨g,0,none⟩)) rfl (.agg (ptv p)) (load_pv HT3.out.rp) ?_)
 refine (whole_p p HZ.out w3 HF3.out).mono ?_
 rintro e w4 ⟨rfl,hb⟩
 obtain ⟨w5,hw5⟩ : ∃ w5,w5=w4.setRow g (ptv p):=⟨_,rfl⟩
 have HT5:Hid (TmAt w p z4 L g h w5):=Lib.hid (by
  have hT:=HT3.out
  have hl:=hT.lt
  have hbe:=hT.be.trans (hb.mono hT.be.size)
  rw [hw5]
  exact ⟨setRow_heap _ _ _ _ _ _ (Rp.row_le hb hT.rp),(setRow_otherE _ _ (by omega)).trans (Rp.row_le hb hT.rn),(setRow_otherE _ _ (by omega)).trans (Rp.row_le hb hT.ro),(setRow_otherE _ _ (by omega)).trans (Rp.row_le hb hT.rr),hl,Rg.below_setRow hbe (by have:=HG.out; omega) _⟩)
 have HR4:=Lib.hid (Rp.row_le hb HT3.out.rp)
 have HW5:=Lib.hid hw5
 clear hw5 hb
 go_upto_region 3 with (refine Rg.store_row rfl 175 _ _ rfl g rfl 175 (ptv p) (ptv p) rfl HR4.out (infoPv p) rfl (ptv_one p) ?_)
 rw [← HW5.out]
 clear HW5 HR4 HT3
 go_wp2_with fail
 go_loopw [6] (fun v wr => ∃ k:Nat,k≤256∧v = .int .i64 (255-(k:Int))∧Hid (TmAt w p (tmsK p L k) L g h wr)) (fun v _=>(intOf v+1).toNat)
 case atStart=>exact ⟨0,by omega,rfl,HT5⟩
 case round =>
  clear HT5
  obtain ⟨k,hk,rfl,HQ⟩:=hrel
  by_cases hlk:k<256
  ·obtain ⟨i,hi⟩ : ∃ i,i=255-k:=⟨_,rfl⟩
   have hci:(255:Int)-(k:Int)=(i:Int):=by omega
   have hi8:i<256:=by omega
   have q0:(0:Int)≤(i:Int):=by omega
   have q1:(0:Int)≤(i:Int) / 8:=by omega
   have q2:(i:Int) / 8<32:=by omega
   have q3:((i:Int) / 8).toNat=i / 8:=by omega
   have q4:(0:Int)≤(i:Int)%8:=by omega
   have q5:((i:Int)%8).toNat=i%8:=by omega
   have hc:wr.cell? ⟨g+1,i / 8,none⟩=some (.int .u8 ((bt L (i / 8)).toNat:Int)):=by
    refine (cell_of_row _ _ _ _ _ _ HQ.out.rn).trans ?_
    have:=HL.out
    unfold bysA bt
    simp [bys,List.getD,show i / 8<L.length by omega]
   have hst:tmsK p L (k+1)=if bitB L i then Fld.pl (Fld.tw (tmsK p L k)) p else Fld.tw (tmsK p L k):=by rw [hi]; rfl
   have hK:=HK.out k
   obtain ⟨R,hR⟩ : ∃ R,R=tmsK p L k:=⟨_,rfl⟩
   rw [← hR] at HQ hst hK
   obtain ⟨x,hx⟩ : ∃ x,x=bt L (i / 8):=⟨_,rfl⟩
   have hbb:bitB L i=decide (x.toNat / 2^(i%8)%2=1):=by rw [hx]; rfl
   rw [← hx] at hc
   rw [hci]
   have HK1:=Lib.hid hK
   have HST:=Lib.hid hst
   have HBB:=Lib.hid hbb
   have HCI:=Lib.hid hci
   clear hR hx hK hst hbb hi hci hlk hk
   go_wp2_with (refine l_loadP rfl _ _ rfl (.pointer (some ⟨h,0,none⟩)) rfl (.agg (ptv R)) (load_pv HQ.out.rr) ?_)
   refine (twice_p R wr (HF.out.below HQ.out.be)).mono ?_
   rintro e w6 ⟨rfl,hb⟩
   obtain ⟨R2,hR2⟩ : ∃ R2,R2=Fld.tw R:=⟨_,rfl⟩
   rw [← hR2] at HST HK1 ⊢
   obtain ⟨w7,hw7⟩ : ∃ w7,w7=w6.setRow h (ptv R2):=⟨_,rfl⟩
   have HQ7:Hid (TmAt w p R2 L g h w7):=Lib.hid (by rw [hw7]; exact HQ.out.next HG.out hb R2)
   have HR6:=Lib.hid (Rp.row_le hb HQ.out.rr)
   have HW7:=Lib.hid hw7
   have HSR:Hid ((ptv R).size=(ptv R2).size):=Lib.hid (by rw [ptv_size,ptv_size])
   have hc7:w7.cell? ⟨g+1,i / 8,none⟩=some (.int .u8 (x.toNat:Int)):=by
    have h1:=(cell_of_row _ _ _ _ _ _ HQ.out.rn).symm.trans hc
    exact (cell_of_row _ _ _ _ _ _ HQ7.out.rn).trans h1
   clear hw7 hb hR2 hc
   go_upto_region 7 with (refine Rg.store_row rfl 175 _ _ rfl h rfl 175 (ptv R) (ptv R2) rfl HR6.out (infoPv R2) HSR.out (ptv_one R2) ?_)
   rw [← HW7.out]
   clear HW7 HR6 HSR HQ
   have hbv:=bit_u8 x.toNat (i%8) x.toNat_lt
   have HBE:=Lib.hid (HF.out.below HQ7.out.be)
   obtain ⟨b,hb⟩ : ∃ b,b=x.toNat / 2^(i%8)%2:=⟨_,rfl⟩
   rw [← hb] at hbv HBB
   have hb2:b<2:=by omega
   clear hb
   by_cases hb1:b=1
   ·subst hb1
    have HSN:Hid (tmsK p L (k+1)=Fld.pl R2 p):=Lib.hid (by rw [HST.out,HBB.out]; rfl)
    obtain ⟨R3,hR3⟩ : ∃ R3,R3=Fld.pl R2 p:=⟨_,rfl⟩
    rw [← hR3] at HSN
    have HA:Hid (Calls Tryz.prog 89 #[.agg (ptv R2),.agg (ptv p)] w7 fun e w'=>e = .returned (.agg (ptv R3))∧Below w7.heap.size w7 w'):=Lib.hid (by rw [hR3]; exact add_p R2 p HK1.out.2 HZ.out w7 HBE.out)
    have HS3:Hid ((ptv R2).size=(ptv R3).size):=Lib.hid (by rw [ptv_size,ptv_size])
    clear hR3
    go_wp2_with (first | (refine l_loadP rfl _ _ rfl (.pointer (some ⟨h,0,none⟩)) rfl (.agg (ptv R2)) (load_pv HQ7.out.rr) ?_) | (refine l_loadP rfl _ _ rfl (.pointer (some ⟨g,0,none⟩)) rfl (.agg (ptv p)) (load_pv HQ7.out.rp) ?_))
    refine HA.out.mono ?_
    rintro e w8 ⟨rfl,hb8⟩
    have HQ9:=Lib.hid (HQ7.out.next HG.out hb8 R3)
    have HR8:=Lib.hid (Rp.row_le hb8 HQ7.out.rr)
    clear hb8
    go_wp2_with (refine Rg.store_row rfl 175 _ _ rfl h rfl 175 (ptv R2) (ptv R3) rfl HR8.out (infoPv R3) HS3.out (ptv_one R3) ?_)
    exact ⟨⟨k+1,by have:=HCI.out; omega,by have:=HCI.out; congr 1; omega,by rw [HSN.out]; exact HQ9⟩,by simp only [intOf]; omega⟩
   ·obtain rfl:b=0:=by omega
    have HSN:Hid (tmsK p L (k+1)=R2):=Lib.hid (by rw [HST.out,HBB.out]; rfl)
    go_wp2_with fail
    exact ⟨⟨k+1,by have:=HCI.out; omega,by have:=HCI.out; congr 1; omega,by rw [HSN.out]; exact HQ7⟩,by simp only [intOf]; omega⟩
  ·obtain rfl:k=256:=by omega
   obtain ⟨R,hR⟩ : ∃ R,R=tmsK p L 256:=⟨_,rfl⟩
   rw [← hR] at HQ
   have HRE:=Lib.hid hR
   have HSR:Hid ((pt 0 0 0 0).size=(ptv R).size):=Lib.hid (by rw [pt_size,ptv_size])
   clear hR hlk
   go_wp2_with (first | (refine l_loadP rfl _ _ rfl (.pointer (some ⟨h,0,none⟩)) rfl (.agg (ptv R)) (load_pv HQ.out.rr) ?_) | (refine Rg.store_row rfl 175 _ _ rfl (g+1+1) rfl 175 (pt 0 0 0 0) (ptv R) rfl HQ.out.ro (infoPv R) HSR.out (ptv_one R) ?_))
   refine bodyPost_ret (v := .agg (ptv R)) (results_cell_row (P:=Tryz.prog) rfl _ _ (g+1+1) 175 (ptv R) (0,0) _ rfl (setRow_heap _ _ _ _ 175 _ HQ.out.ro) Tryz.underlying175 rfl (infoPv R)) rfl ⟨by rw [HRE.out],Rg.below_setRow HQ.out.be (by have:=HG.out; omega) _⟩
end Fld
end Go.Proofs.YtfodadedkilgdaaGreatDoor

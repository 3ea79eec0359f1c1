/- HostClock: for every seed and every number the law answers true. No condition beyond the row's own. -/
import Derived.Test.YtfodadedkilgdaaGreatDoorP38
namespace Go.Proofs.YtfodadedkilgdaaGreatDoor.hostClock
open Go.ChangeShapes Go.WideShapes Go.ChangeAt Go.RowKit Mem Sha Ref Wrap
set_option maxRecDepth 100000 in
theorem contract (H:Type) (enc:TypeId×Value→H) (W:World) (base:Nat) (args:Array Value) (ds gs:List (DataW H)) (before:List MemPlace)
 (hval : ∀ (j:Nat) t v,Tryz.f3.params[j]? = some t→args[j]? = some v→Value.okWide Tryz.prog W .any base t v)
 (hW:DataW.Whole enc Tryz.prog Tryz.f3.params.toList Rows.hostClockSpec.vars false W args.toList ds gs before) (hL:laidMetH Tryz.prog Rows.hostClockRow.laid W) :
 Calls Tryz.prog 3 args W fun e W' => ∃ v,e = .returned v∧Rows.hostClockSpec.post enc Tryz.prog Tryz.f3 false true false false W args v W':=by
 have hL':laidMet Tryz.prog Rows.hostClockRow.laid W:=hL
 have hW':=hW
 obtain ⟨pp,qq,hA0,hV,rfl,hfz,hnd⟩:=hW
 have hA:DataW.TrodAll enc Tryz.prog W 0 (fun _=>true) true Tryz.f3.params.toList args.toList ds pp:=hA0
 rw [Tryz.params3] at hA hval
 obtain ⟨v0,vs0,d0,ds0,p0,q0,hargs,rfl,rfl,h0,r0⟩:=trodAll_cons hA
 obtain ⟨v1,vs1,d1,ds1,p1,q1,rfl,rfl,rfl,h1,r1⟩:=trodAll_cons r0
 obtain ⟨rfl,rfl,rfl⟩:=trodAll_nil r1
 obtain rfl:args = #[v0,v1]:=by cases args; simp_all
 obtain ⟨seed,rfl,hs⟩:=open_arr32 (hval 0 _ v0 rfl rfl)
 obtain ⟨n,rfl,hn0,hn1⟩:=open_i64 (hval 1 _ v1 rfl rfl)
 have hS:Sha.Tabs W:=sha_tabs hL' (by simp [Rows.hostClockRow]) (by simp [Rows.hostClockRow])
 have hJ:Rn.J0 W:=run_tabs hL' hS (by simp [Rows.hostClockRow]) (by simp [Rows.hostClockRow]) (by simp [Rows.hostClockRow]) (by simp [Rows.hostClockRow]) (by simp [Rows.hostClockRow]) (by simp [Rows.hostClockRow]) (by simp [Rows.hostClockRow]) (by simp [Rows.hostClockRow]) (by simp [Rows.hostClockRow])
 refine (Rn.clock_any seed hs n hn0 hn1 W hJ).mono fun e W' ⟨he,hb⟩ => ?_
 exact ⟨_,he,law_post laidOut mapsRow sliceFull (by kernel_rfl) (by kernel_rfl) Tryz.underlying4 rfl hW' (fun gs hg=>by subst hg; rfl) hb⟩
def lay (g:Nat) (c:Array Value) (h:Array Obj):Array Obj:=h.modify g fun | .cells _ t frozen => .cells c t frozen | o=>o
noncomputable def laidWorld (os:Os):World := {World.holding Tryz.prog os ⟨#[],#[],[]⟩ with heap:=lay 6 ((zsOf Rows.laid_custumal_sha5_rounds |>.map (Value.int .u64)).toArray) (lay 3 ((zsOf Rows.laid_custumal_sha5_start |>.map (Value.int .u64)).toArray) (lay 10 ((zsOf Rows.laid_custumal_edwards_curve |>.map (Value.int .u64)).toArray) (lay 4 ((zsOf Rows.laid_custumal_edwards_double |>.map (Value.int .u64)).toArray) (lay 1 ((zsOf Rows.laid_custumal_edwards_baseY |>.map (Value.int .u64)).toArray) (lay 0 ((zsOf Rows.laid_custumal_edwards_baseX |>.map (Value.int .u64)).toArray) (lay 2 ((zsOf Rows.laid_custumal_scalar_order |>.map (Value.int .u64)).toArray) (lay 11 ((zsOf Rows.laid_custumal_field_imaginary |>.map (Value.int .u64)).toArray) (lay 7 ((zsOf Rows.laid_custumal_field_modulus |>.map (Value.int .u64)).toArray) (lay 9 (Sha.cells Sha.KK) (lay 5 (Sha.cells Sha.HH) ((World.holding Tryz.prog os ⟨#[],#[],[]⟩).heap)))))))))))}
theorem laid_met (os:Os):laidMet Tryz.prog Rows.hostClockRow.laid ((laidWorld os).forCall (fun _ _=>0) ⟨#[],#[.agg #[.int .u8 0,.int .u8 0,.int .u8 0,.int .u8 0,.int .u8 0,.int .u8 0,.int .u8 0,.int .u8 0,.int .u8 0,.int .u8 0,.int .u8 0,.int .u8 0,.int .u8 0,.int .u8 0,.int .u8 0,.int .u8 0,.int .u8 0,.int .u8 0,.int .u8 0,.int .u8 0,.int .u8 0,.int .u8 0,.int .u8 0,.int .u8 0,.int .u8 0,.int .u8 0,.int .u8 0,.int .u8 0,.int .u8 0,.int .u8 0,.int .u8 0,.int .u8 0],.int .i64 0],[]⟩).memory :=
 laidMet_of_run' 8 (by kernel_rfl) (by kernel_rfl)
theorem reads (os:Os) {H:Type} (enc:TypeId×Value→H) : ∃ places,DataW.whole enc Tryz.prog ((laidWorld os).forCall (fun _ _=>0) ⟨#[],#[.agg #[.int .u8 0,.int .u8 0,.int .u8 0,.int .u8 0,.int .u8 0,.int .u8 0,.int .u8 0,.int .u8 0,.int .u8 0,.int .u8 0,.int .u8 0,.int .u8 0,.int .u8 0,.int .u8 0,.int .u8 0,.int .u8 0,.int .u8 0,.int .u8 0,.int .u8 0,.int .u8 0,.int .u8 0,.int .u8 0,.int .u8 0,.int .u8 0,.int .u8 0,.int .u8 0,.int .u8 0,.int .u8 0,.int .u8 0,.int .u8 0,.int .u8 0,.int .u8 0],.int .i64 0],[]⟩).memory Tryz.f3.params.toList Rows.hostClockSpec.vars false (#[.agg #[.int .u8 0,.int .u8 0,.int .u8 0,.int .u8 0,.int .u8 0,.int .u8 0,.int .u8 0,.int .u8 0,.int .u8 0,.int .u8 0,.int .u8 0,.int .u8 0,.int .u8 0,.int .u8 0,.int .u8 0,.int .u8 0,.int .u8 0,.int .u8 0,.int .u8 0,.int .u8 0,.int .u8 0,.int .u8 0,.int .u8 0,.int .u8 0,.int .u8 0,.int .u8 0,.int .u8 0,.int .u8 0,.int .u8 0,.int .u8 0,.int .u8 0,.int .u8 0],.int .i64 0]:Array Value).toList 8=some ([.agg [.lit (.int .u8 0),.lit (.int .u8 0),.lit (.int .u8 0),.lit (.int .u8 0),.lit (.int .u8 0),.lit (.int .u8 0),.lit (.int .u8 0),.lit (.int .u8 0),.lit (.int .u8 0),.lit (.int .u8 0),.lit (.int .u8 0),.lit (.int .u8 0),.lit (.int .u8 0),.lit (.int .u8 0),.lit (.int .u8 0),.lit (.int .u8 0),.lit (.int .u8 0),.lit (.int .u8 0),.lit (.int .u8 0),.lit (.int .u8 0),.lit (.int .u8 0),.lit (.int .u8 0),.lit (.int .u8 0),.lit (.int .u8 0),.lit (.int .u8 0),.lit (.int .u8 0),.lit (.int .u8 0),.lit (.int .u8 0),.lit (.int .u8 0),.lit (.int .u8 0),.lit (.int .u8 0),.lit (.int .u8 0)],.lit (.int .i64 0)],[],places) :=
 ⟨[],by kernel_rfl⟩
set_option maxRecDepth 100000 in
theorem lifted (os:Os) (started:os.Started) (H:Type) (enc:TypeId×Value→H) (F:Stop.Interp) :
 ReturnsInHanded {} Tryz.checked os 3 .any ((OpenSpec.ofChange Rows.hostClockSpec).preRow enc Tryz.prog Tryz.f3 Rows.hostClockRow.domain false Rows.hostClockRow.laid) (((OpenSpec.ofChange Rows.hostClockSpec).at F).post enc Tryz.prog Tryz.f3 false true false false):=by
 obtain ⟨places,hx⟩:=reads os enc
 refine returnsInHanded_of_row (C:=Tryz.checked) (s:=OpenSpec.ofChange Rows.hostClockSpec) own started (by kernel_rfl) Tryz.func3
  (witness_row_at (enc:=enc) (C:=Tryz.checked) false (laidWorld os) #[.agg #[.int .u8 0,.int .u8 0,.int .u8 0,.int .u8 0,.int .u8 0,.int .u8 0,.int .u8 0,.int .u8 0,.int .u8 0,.int .u8 0,.int .u8 0,.int .u8 0,.int .u8 0,.int .u8 0,.int .u8 0,.int .u8 0,.int .u8 0,.int .u8 0,.int .u8 0,.int .u8 0,.int .u8 0,.int .u8 0,.int .u8 0,.int .u8 0,.int .u8 0,.int .u8 0,.int .u8 0,.int .u8 0,.int .u8 0,.int .u8 0,.int .u8 0,.int .u8 0],.int .i64 0] rfl (by kernel_rfl) (by kernel_rfl) (by kernel_rfl)
   (OpenSpec.preRow_of_cond 8 hx (by kernel_rfl) (fun k hk=>by cases hk) (by kernel_rfl) (laid_met os))) ?_
 intro W base args ds gs before hval hW _ _ _ hL _ _
 exact contract H enc W base args ds gs before hval hW hL
theorem said:Rows.HostClockSaid :=
 OpenClaim.holds_of_cond 3 Tryz.f3 rfl rfl rfl rfl rfl rfl rfl ⟨rfl,rfl,rfl,rfl,rfl⟩ rfl rfl rfl rfl rfl (by kernel_rfl) Tryz.func3 (by kernel_rfl)
  (of_decide_eq_true (by kernel_rfl)) (by unfold Func.isWrapper; first | (rw [if_pos (by decide +kernel)]; kernel_rfl) | (rw [if_neg (by decide +kernel)]; exact ⟨rfl,rfl⟩))
  (fun os started H enc _ F=>by rw [OpenClaim.pre_eq_preRow]; exact lifted os started H enc F)
theorem plain (f:FuncId) (fn:Func) (hf:Tryz.pinned.checked.prog.funcNamed "custumal/custumallaw26.HostClock" = some f) (hfn:Tryz.pinned.checked.prog.funcs[f]? = some fn) :
 false=Tryz.pinned.checked.prog.looks [] ∧ ∀ (j:Nat) t,fn.params[j]? = some t→Tryz.pinned.checked.prog.wantsStandIn t=false:=by
 obtain rfl:f=3:=Option.some.inj ((show Tryz.prog.funcNamed "custumal/custumallaw26.HostClock" = some 3 by kernel_rfl).symm.trans hf) |>.symm
 obtain rfl:fn=Tryz.f3:=(Option.some.inj (Tryz.func3.symm.trans hfn)).symm
 refine ⟨by kernel_rfl,fun j t ht => ?_⟩
 rw [Tryz.params3] at ht
 have hm:=Array.mem_of_getElem? ht
 simp only [List.mem_toArray,List.mem_cons,List.not_mem_nil,or_false] at hm
 rcases hm with rfl | rfl
 · exact (show Tryz.prog.wantsStandIn 22=false by kernel_rfl)
 · exact (show Tryz.prog.wantsStandIn 3=false by kernel_rfl)
theorem card:Rows.HostClockCardSaid :=
 Claim7.holds_tied_plain_at .later [] _ _ _ _ said (fun _ h=>by cases h) (by kernel_rfl) (fun _ h=>by cases h) hostClock_row_tie rfl ⟨rfl,rfl⟩ (by kernel_rfl) rfl plain (by kernel_rfl)
end Go.Proofs.YtfodadedkilgdaaGreatDoor.hostClock
namespace Go.Proofs.YtfodadedkilgdaaGreatDoor
theorem hostClock_holds:Rows.HostClockCardSaid:=hostClock.card
end Go.Proofs.YtfodadedkilgdaaGreatDoor

/- ExtractLooks: for every public key, every label and every two answers the law answers true, and they read behind the call as before. No condition beyond the row's own. -/
import Derived.Test.YtmonkggoilhngaaGreatDoorGStdJ
import Derived.Test.YtmonkggoilhngaaGreatDoorLookK
namespace Go.Proofs.YtmonkggoilhngaaGreatDoor.extractLooks
open Go.ChangeShapes Go.WideShapes Go.ChangeAt Go.RowKit Mem Sha Ref Wrap
set_option maxRecDepth 100000 in
theorem contract (H : Type) (enc : TypeId × Value → H) (W : World) (base : Nat) (args : Array Value) (ds gs : List (DataW H)) (before : List MemPlace)
    (hval : ∀ (j : Nat) t v, Tryz.f4.params[j]? = some t → args[j]? = some v → Value.okWide Tryz.prog W .any base t v)
    (hW : DataW.Whole enc Tryz.prog Tryz.f4.params.toList Rows.extractLooksSpec.vars false W args.toList ds gs before) (hL : laidMetH Tryz.prog Rows.extractLooksRow.laid W) :
    Calls Tryz.prog 4 args W fun e W' => ∃ v, e = .returned v ∧ Rows.extractLooksSpec.post enc Tryz.prog Tryz.f4 false true false false W args v W' := by
  have hL' : laidMet Tryz.prog Rows.extractLooksRow.laid W := hL
  have hW' := hW
  obtain ⟨pp, qq, hA0, hV, rfl, hfz, hnd⟩ := hW
  have hA : DataW.TrodAll enc Tryz.prog W 0 (fun _ => true) true Tryz.f4.params.toList args.toList ds pp := hA0
  rw [Tryz.params4] at hA hval
  obtain ⟨v0, vs0, d0, ds0, p0, q0, hargs, rfl, rfl, h0, r0⟩ := trodAll_cons hA
  obtain ⟨v1, vs1, d1, ds1, p1, q1, rfl, rfl, rfl, h1, r1⟩ := trodAll_cons r0
  obtain ⟨v2, vs2, d2, ds2, p2, q2, rfl, rfl, rfl, h2, r2⟩ := trodAll_cons r1
  obtain ⟨rfl, rfl, rfl⟩ := trodAll_nil r2
  obtain rfl : args = #[v0, v1, v2] := by cases args; simp_all
  obtain ⟨pub, rfl, hp⟩ := open_arr32 (hval 0 _ v0 rfl rfl)
  obtain ⟨qL, cL, LB, rfl, hlb⟩ := open_bytes (hval 1 _ v1 rfl rfl) h1
  have hql := cellsAt_ok (hval 1 _ _ rfl rfl)
  obtain ⟨q0, c0, X, q1, c1, Y, rfl, hx, hy, hq0, hq1⟩ := open_two (hval 2 _ v2 rfl rfl) h2
  have hS : Sha.Tabs W := sha_tabs hL' (by simp [Rows.extractLooksRow]) (by simp [Rows.extractLooksRow])
  have hT : Ab.WT Ab.gtL Ab.tabS W := std_tabs hL' (by simp [Rows.extractLooksRow]) (by simp [Rows.extractLooksRow]) (by simp [Rows.extractLooksRow]) (by simp [Rows.extractLooksRow]) (by simp [Rows.extractLooksRow]) (by simp [Rows.extractLooksRow]) (by simp [Rows.extractLooksRow]) (by simp [Rows.extractLooksRow]) (by simp [Rows.extractLooksRow])
  refine (Stn.extractLooks_any hT hS hp hlb hql hx hy hq0 hq1).mono fun e W' ⟨he, hb⟩ => ?_
  exact ⟨_, he, law_post laidOut mapsRow sliceFull (by kernel_rfl) (by kernel_rfl) Tryz.underlying4 rfl hW' (fun gs hg => by subst hg; rfl) hb⟩
def lay (g : Nat) (c : Array Value) (h : Array Obj) : Array Obj := h.modify g fun | .cells _ t frozen => .cells c t frozen | o => o
noncomputable def laidWorld (os : Os) : World := { World.holding Tryz.prog os ⟨#[], #[], []⟩ with heap := lay 10 ((zsOf Rows.laid_custumal_sha5_rounds |>.map (Value.int .u64)).toArray) (lay 7 ((zsOf Rows.laid_custumal_sha5_start |>.map (Value.int .u64)).toArray) (lay 6 ((zsOf Rows.laid_custumal_edwards_curve |>.map (Value.int .u64)).toArray) (lay 4 ((zsOf Rows.laid_custumal_edwards_double |>.map (Value.int .u64)).toArray) (lay 3 ((zsOf Rows.laid_custumal_edwards_baseY |>.map (Value.int .u64)).toArray) (lay 2 ((zsOf Rows.laid_custumal_edwards_baseX |>.map (Value.int .u64)).toArray) (lay 5 ((zsOf Rows.laid_custumal_scalar_order |>.map (Value.int .u64)).toArray) (lay 9 ((zsOf Rows.laid_custumal_field_imaginary |>.map (Value.int .u64)).toArray) (lay 8 ((zsOf Rows.laid_custumal_field_modulus |>.map (Value.int .u64)).toArray) (lay 1 (Sha.cells Sha.KK) (lay 0 (Sha.cells Sha.HH) ((World.holding Tryz.prog os ⟨#[], #[], []⟩).heap))))))))))) }
theorem laid_met (os : Os) : laidMet Tryz.prog Rows.extractLooksRow.laid ((laidWorld os).forCall (fun _ _ => 0) ⟨#[], #[.agg #[.int .u8 0, .int .u8 0, .int .u8 0, .int .u8 0, .int .u8 0, .int .u8 0, .int .u8 0, .int .u8 0, .int .u8 0, .int .u8 0, .int .u8 0, .int .u8 0, .int .u8 0, .int .u8 0, .int .u8 0, .int .u8 0, .int .u8 0, .int .u8 0, .int .u8 0, .int .u8 0, .int .u8 0, .int .u8 0, .int .u8 0, .int .u8 0, .int .u8 0, .int .u8 0, .int .u8 0, .int .u8 0, .int .u8 0, .int .u8 0, .int .u8 0, .int .u8 0], .slice none 0 0, .agg #[.slice none 0 0, .slice none 0 0]], []⟩).memory :=
  laidMet_of_run' 8 (by kernel_rfl) (by kernel_rfl)
theorem reads (os : Os) {H : Type} (enc : TypeId × Value → H) : ∃ places, DataW.whole enc Tryz.prog ((laidWorld os).forCall (fun _ _ => 0) ⟨#[], #[.agg #[.int .u8 0, .int .u8 0, .int .u8 0, .int .u8 0, .int .u8 0, .int .u8 0, .int .u8 0, .int .u8 0, .int .u8 0, .int .u8 0, .int .u8 0, .int .u8 0, .int .u8 0, .int .u8 0, .int .u8 0, .int .u8 0, .int .u8 0, .int .u8 0, .int .u8 0, .int .u8 0, .int .u8 0, .int .u8 0, .int .u8 0, .int .u8 0, .int .u8 0, .int .u8 0, .int .u8 0, .int .u8 0, .int .u8 0, .int .u8 0, .int .u8 0, .int .u8 0], .slice none 0 0, .agg #[.slice none 0 0, .slice none 0 0]], []⟩).memory Tryz.f4.params.toList Rows.extractLooksSpec.vars false (#[.agg #[.int .u8 0, .int .u8 0, .int .u8 0, .int .u8 0, .int .u8 0, .int .u8 0, .int .u8 0, .int .u8 0, .int .u8 0, .int .u8 0, .int .u8 0, .int .u8 0, .int .u8 0, .int .u8 0, .int .u8 0, .int .u8 0, .int .u8 0, .int .u8 0, .int .u8 0, .int .u8 0, .int .u8 0, .int .u8 0, .int .u8 0, .int .u8 0, .int .u8 0, .int .u8 0, .int .u8 0, .int .u8 0, .int .u8 0, .int .u8 0, .int .u8 0, .int .u8 0], .slice none 0 0, .agg #[.slice none 0 0, .slice none 0 0]] : Array Value).toList 8 = some ([.agg [.lit (.int .u8 0), .lit (.int .u8 0), .lit (.int .u8 0), .lit (.int .u8 0), .lit (.int .u8 0), .lit (.int .u8 0), .lit (.int .u8 0), .lit (.int .u8 0), .lit (.int .u8 0), .lit (.int .u8 0), .lit (.int .u8 0), .lit (.int .u8 0), .lit (.int .u8 0), .lit (.int .u8 0), .lit (.int .u8 0), .lit (.int .u8 0), .lit (.int .u8 0), .lit (.int .u8 0), .lit (.int .u8 0), .lit (.int .u8 0), .lit (.int .u8 0), .lit (.int .u8 0), .lit (.int .u8 0), .lit (.int .u8 0), .lit (.int .u8 0), .lit (.int .u8 0), .lit (.int .u8 0), .lit (.int .u8 0), .lit (.int .u8 0), .lit (.int .u8 0), .lit (.int .u8 0), .lit (.int .u8 0)], .nil, .agg [.nil, .nil]], [], places) :=
  ⟨[], by kernel_rfl⟩
set_option maxRecDepth 100000 in
theorem lifted (os : Os) (started : os.Started) (H : Type) (enc : TypeId × Value → H) (F : Stop.Interp) :
    ReturnsInHanded {} Tryz.checked os 4 .any ((OpenSpec.ofChange Rows.extractLooksSpec).preRow enc Tryz.prog Tryz.f4 Rows.extractLooksRow.domain false Rows.extractLooksRow.laid) (((OpenSpec.ofChange Rows.extractLooksSpec).at F).post enc Tryz.prog Tryz.f4 false true false false) := by
  obtain ⟨places, hx⟩ := reads os enc
  refine returnsInHanded_of_row (C := Tryz.checked) (s := OpenSpec.ofChange Rows.extractLooksSpec) own started (by kernel_rfl) Tryz.func4
    (witness_row_at (enc := enc) (C := Tryz.checked) false (laidWorld os) #[.agg #[.int .u8 0, .int .u8 0, .int .u8 0, .int .u8 0, .int .u8 0, .int .u8 0, .int .u8 0, .int .u8 0, .int .u8 0, .int .u8 0, .int .u8 0, .int .u8 0, .int .u8 0, .int .u8 0, .int .u8 0, .int .u8 0, .int .u8 0, .int .u8 0, .int .u8 0, .int .u8 0, .int .u8 0, .int .u8 0, .int .u8 0, .int .u8 0, .int .u8 0, .int .u8 0, .int .u8 0, .int .u8 0, .int .u8 0, .int .u8 0, .int .u8 0, .int .u8 0], .slice none 0 0, .agg #[.slice none 0 0, .slice none 0 0]] rfl (by kernel_rfl) (by kernel_rfl) (by kernel_rfl)
      (OpenSpec.preRow_of_cond 8 hx (by kernel_rfl) (fun k hk => by cases hk) (by kernel_rfl) (laid_met os))) ?_
  intro W base args ds gs before hval hW _ _ _ hL _ _
  exact contract H enc W base args ds gs before hval hW hL
theorem said : Rows.ExtractLooksSaid :=
  OpenClaim.holds_of_cond 4 Tryz.f4 rfl rfl rfl rfl rfl rfl rfl ⟨rfl, rfl, rfl, rfl, rfl⟩ rfl rfl rfl rfl rfl (by kernel_rfl) Tryz.func4 (by kernel_rfl)
    (of_decide_eq_true (by kernel_rfl)) (by unfold Func.isWrapper; first | (rw [if_pos (by decide +kernel)]; kernel_rfl) | (rw [if_neg (by decide +kernel)]; exact ⟨rfl, rfl⟩))
    (fun os started H enc _ F => by rw [OpenClaim.pre_eq_preRow]; exact lifted os started H enc F)
theorem plain (f : FuncId) (fn : Func) (hf : Tryz.pinned.checked.prog.funcNamed "custumal/custumallaw30.ExtractLooks" = some f) (hfn : Tryz.pinned.checked.prog.funcs[f]? = some fn) :
    false = Tryz.pinned.checked.prog.looks [] ∧ ∀ (j : Nat) t, fn.params[j]? = some t → Tryz.pinned.checked.prog.wantsStandIn t = false := by
  obtain rfl : f = 4 := Option.some.inj ((show Tryz.prog.funcNamed "custumal/custumallaw30.ExtractLooks" = some 4 by kernel_rfl).symm.trans hf) |>.symm
  obtain rfl : fn = Tryz.f4 := (Option.some.inj (Tryz.func4.symm.trans hfn)).symm
  refine ⟨by kernel_rfl, fun j t ht => ?_⟩
  rw [Tryz.params4] at ht
  have hm := Array.mem_of_getElem? ht
  simp only [List.mem_toArray, List.mem_cons, List.not_mem_nil, or_false] at hm
  rcases hm with rfl | rfl | rfl
  · exact (show Tryz.prog.wantsStandIn 22 = false by kernel_rfl)
  · exact (show Tryz.prog.wantsStandIn 23 = false by kernel_rfl)
  · exact (show Tryz.prog.wantsStandIn 24 = false by kernel_rfl)
theorem card : Rows.ExtractLooksCardSaid :=
  Claim7.holds_tied_plain_at .later [] _ _ _ _ said (fun _ h => by cases h) (by kernel_rfl) (fun _ h => by cases h) extractLooks_row_tie rfl ⟨rfl, rfl⟩ (by kernel_rfl) rfl plain (by kernel_rfl)
end Go.Proofs.YtmonkggoilhngaaGreatDoor.extractLooks
namespace Go.Proofs.YtmonkggoilhngaaGreatDoor
theorem extractLooks_holds : Rows.ExtractLooksCardSaid := extractLooks.card
end Go.Proofs.YtmonkggoilhngaaGreatDoor

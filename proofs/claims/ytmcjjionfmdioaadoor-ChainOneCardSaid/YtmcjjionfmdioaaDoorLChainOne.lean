/- ChainOne: for every id and every two pasts the law answers true. No condition beyond the row's own. -/
import Derived.Test.YtmcjjionfmdioaaDoorOpenP
import Derived.Test.YtmcjjionfmdioaaDoorOne
namespace Go.Proofs.YtmcjjionfmdioaaDoor.chainOne
open Go.ChangeShapes Go.WideShapes Go.ChangeAt Go.RowKit Mem Sha Ref Wrap
/-- What the walk gives, for every argument and every world that holds the tables. -/
theorem contract (H : Type) (enc : TypeId × Value → H) (W : World) (base : Nat) (args : Array Value) (ds gs : List (DataW H)) (before : List MemPlace)
    (hval : ∀ (j : Nat) t v, Tryd.f7.params[j]? = some t → args[j]? = some v → Value.okWide Tryd.prog W .any base t v)
    (hW : DataW.Whole enc Tryd.prog Tryd.f7.params.toList Rows.chainOneSpec.vars false W args.toList ds gs before) (hL : laidMetH Tryd.prog Rows.chainOneRow.laid W) :
    Calls Tryd.prog 7 args W fun e W' => ∃ v, e = .returned v ∧ Rows.chainOneSpec.post enc Tryd.prog Tryd.f7 false true false false W args v W' := by
  have hL' : laidMet Tryd.prog Rows.chainOneRow.laid W := hL
  have hW' := hW
  obtain ⟨pp, qq, hA0, hV, rfl, hfz, hnd⟩ := hW
  have hA : DataW.TrodAll enc Tryd.prog W 0 (fun _ => true) true Tryd.f7.params.toList args.toList ds pp := hA0
  rw [Tryd.params7] at hA hval
  obtain ⟨v0, vs0, d0, ds0, p0, q0, hargs, rfl, rfl, h0, r0⟩ := trodAll_cons hA
  obtain ⟨v1, vs1, d1, ds1, p1, q1, rfl, rfl, rfl, h1, r1⟩ := trodAll_cons r0
  obtain ⟨v2, vs2, d2, ds2, p2, q2, rfl, rfl, rfl, h2, r2⟩ := trodAll_cons r1
  obtain ⟨rfl, rfl, rfl⟩ := trodAll_nil r2
  obtain rfl : args = #[v0, v1, v2] := by cases args; simp_all
  obtain ⟨q, c, l, rfl, hl⟩ := open_bytes (hval 0 _ v0 rfl rfl) h0
  obtain ⟨f, a, qr, cr, R, rfl, ha, hr, hf0, hf1⟩ := open_past (hval 1 _ v1 rfl rfl) h1
  obtain ⟨g, b, qs, cs, S, rfl, hb, hs, hg0, hg1⟩ := open_past (hval 2 _ v2 rfl rfl) h2
  have hS : Sha.Tabs W := sha_tabs hL' (by simp [Rows.chainOneRow]) (by simp [Rows.chainOneRow])
  have hR : Ref.Tabs W := ref_tabs hL' (by simp [Rows.chainOneRow]) (by simp [Rows.chainOneRow])
  refine (chainOne_any q c l f g a b qr qs cr cs R S W hS hR hl ha hb hr hs hf0 hf1 hg0 hg1).mono fun e W' ⟨he, hb⟩ => ?_
  exact ⟨_, he, law_post laidOut mapsRow sliceFull (by kernel_rfl) (by kernel_rfl) Tryd.underlying4 rfl hW' (fun gs hg => by subst hg; rfl) hb⟩
/-- A world for the witness: the tables hold what their initialisers lay. -/
def lay (g : Nat) (c : Array Value) (h : Array Obj) : Array Obj := h.modify g fun | .cells _ t frozen => .cells c t frozen | o => o
noncomputable def laidWorld (os : Os) : World := { World.holding Tryd.prog os ⟨#[], #[], []⟩ with heap := lay 1 (Ref.cI Sha.KK) (lay 0 (Ref.cI Sha.HH) (lay 3 (Sha.cells Sha.KK) (lay 2 (Sha.cells Sha.HH) ((World.holding Tryd.prog os ⟨#[], #[], []⟩).heap)))) }
theorem laid_met (os : Os) : laidMet Tryd.prog Rows.chainOneRow.laid ((laidWorld os).forCall (fun _ _ => 0) ⟨#[], #[.slice none 0 0, .agg (Value.int .i64 0 :: (List.replicate 32 (Value.int .u8 0) ++ [Value.slice none 0 0])).toArray, .agg (Value.int .i64 0 :: (List.replicate 32 (Value.int .u8 0) ++ [Value.slice none 0 0])).toArray], []⟩).memory :=
  laidMet_of_run' 8 (by kernel_rfl) (by kernel_rfl)
theorem reads (os : Os) {H : Type} (enc : TypeId × Value → H) : ∃ places, DataW.whole enc Tryd.prog ((laidWorld os).forCall (fun _ _ => 0) ⟨#[], #[.slice none 0 0, .agg (Value.int .i64 0 :: (List.replicate 32 (Value.int .u8 0) ++ [Value.slice none 0 0])).toArray, .agg (Value.int .i64 0 :: (List.replicate 32 (Value.int .u8 0) ++ [Value.slice none 0 0])).toArray], []⟩).memory Tryd.f7.params.toList Rows.chainOneSpec.vars false (#[.slice none 0 0, .agg (Value.int .i64 0 :: (List.replicate 32 (Value.int .u8 0) ++ [Value.slice none 0 0])).toArray, .agg (Value.int .i64 0 :: (List.replicate 32 (Value.int .u8 0) ++ [Value.slice none 0 0])).toArray] : Array Value).toList 8 = some ([.nil, .agg [.lit (.int .i64 0), .agg (List.replicate 32 (.lit (.int .u8 0))), .nil], .agg [.lit (.int .i64 0), .agg (List.replicate 32 (.lit (.int .u8 0))), .nil]], [], places) :=
  ⟨[], by kernel_rfl⟩
set_option maxRecDepth 100000 in
theorem lifted (os : Os) (started : os.Started) (H : Type) (enc : TypeId × Value → H) (F : Stop.Interp) :
    ReturnsInHanded {} Tryd.checked os 7 .any ((OpenSpec.ofChange Rows.chainOneSpec).preRow enc Tryd.prog Tryd.f7 Rows.chainOneRow.domain false Rows.chainOneRow.laid) (((OpenSpec.ofChange Rows.chainOneSpec).at F).post enc Tryd.prog Tryd.f7 false true false false) := by
  obtain ⟨places, hx⟩ := reads os enc
  refine returnsInHanded_of_row (C := Tryd.checked) (s := OpenSpec.ofChange Rows.chainOneSpec) own started (by kernel_rfl) Tryd.func7
    (witness_row_at (enc := enc) (C := Tryd.checked) false (laidWorld os) #[.slice none 0 0, .agg (Value.int .i64 0 :: (List.replicate 32 (Value.int .u8 0) ++ [Value.slice none 0 0])).toArray, .agg (Value.int .i64 0 :: (List.replicate 32 (Value.int .u8 0) ++ [Value.slice none 0 0])).toArray] rfl (by kernel_rfl) (by kernel_rfl) (by kernel_rfl)
      (OpenSpec.preRow_of_cond 8 hx (by kernel_rfl) (fun k hk => by cases hk) (by kernel_rfl) (laid_met os))) ?_
  intro W base args ds gs before hval hW _ _ _ hL _ _
  exact contract H enc W base args ds gs before hval hW hL
theorem said : Rows.ChainOneSaid :=
  OpenClaim.holds_of_cond 7 Tryd.f7 rfl rfl rfl rfl rfl rfl rfl ⟨rfl, rfl, rfl, rfl, rfl⟩ rfl rfl rfl rfl rfl (by kernel_rfl) Tryd.func7 (by kernel_rfl)
    (of_decide_eq_true (by kernel_rfl)) (by unfold Func.isWrapper; first | (rw [if_pos (by decide +kernel)]; kernel_rfl) | (rw [if_neg (by decide +kernel)]; exact ⟨rfl, rfl⟩))
    (fun os started H enc _ F => by rw [OpenClaim.pre_eq_preRow]; exact lifted os started H enc F)
theorem plain (f : FuncId) (fn : Func) (hf : Tryd.pinned.checked.prog.funcNamed "custumal/custumallaw18.ChainOne" = some f) (hfn : Tryd.pinned.checked.prog.funcs[f]? = some fn) :
    false = Tryd.pinned.checked.prog.looks [] ∧ ∀ (j : Nat) t, fn.params[j]? = some t → Tryd.pinned.checked.prog.wantsStandIn t = false := by
  obtain rfl : f = 7 := Option.some.inj ((show Tryd.prog.funcNamed "custumal/custumallaw18.ChainOne" = some 7 by kernel_rfl).symm.trans hf) |>.symm
  obtain rfl : fn = Tryd.f7 := (Option.some.inj (Tryd.func7.symm.trans hfn)).symm
  refine ⟨by kernel_rfl, fun j t ht => ?_⟩
  rw [Tryd.params7] at ht
  have hm := Array.mem_of_getElem? ht
  simp only [List.mem_toArray, List.mem_cons, List.not_mem_nil, or_false] at hm
  rcases hm with rfl | rfl | rfl
  · exact (show Tryd.prog.wantsStandIn 28 = false by kernel_rfl)
  · exact (show Tryd.prog.wantsStandIn 42 = false by kernel_rfl)
  · exact (show Tryd.prog.wantsStandIn 42 = false by kernel_rfl)
/-- The card. -/
theorem card : Rows.ChainOneCardSaid :=
  Claim7.holds_tied_plain_at .later [] _ _ _ _ said (fun _ h => by cases h) (by kernel_rfl) (fun _ h => by cases h) chainOne_row_tie rfl ⟨rfl, rfl⟩ (by kernel_rfl) rfl plain (by kernel_rfl)
end Go.Proofs.YtmcjjionfmdioaaDoor.chainOne
namespace Go.Proofs.YtmcjjionfmdioaaDoor
theorem chainOne_holds : Rows.ChainOneCardSaid := chainOne.card
end Go.Proofs.YtmcjjionfmdioaaDoor

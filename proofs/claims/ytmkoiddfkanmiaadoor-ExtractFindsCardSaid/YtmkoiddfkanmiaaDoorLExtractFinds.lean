/- ExtractFinds: for every two rows of texts the law answers true, and the texts read behind the call as before. No condition beyond the row's own. -/
import Derived.Test.YtmkoiddfkanmiaaDoorOpen
import Derived.Test.YtmkoiddfkanmiaaDoorFindH
namespace Go.Proofs.YtmkoiddfkanmiaaDoor.extractFinds
open Go.ChangeShapes Go.WideShapes Go.ChangeAt Go.RowKit Mem Sha Ref Wrap
set_option maxRecDepth 100000 in
/-- What the walk gives, for every argument and every world that holds the tables. -/
theorem contract (H : Type) (enc : TypeId × Value → H) (W : World) (base : Nat) (args : Array Value) (ds gs : List (DataW H)) (before : List MemPlace)
    (hval : ∀ (j : Nat) t v, Tryd.f3.params[j]? = some t → args[j]? = some v → Value.okWide Tryd.prog W .any base t v)
    (hW : DataW.Whole enc Tryd.prog Tryd.f3.params.toList Rows.extractFindsSpec.vars false W args.toList ds gs before) (hL : laidMetH Tryd.prog Rows.extractFindsRow.laid W) :
    Calls Tryd.prog 3 args W fun e W' => ∃ v, e = .returned v ∧ Rows.extractFindsSpec.post enc Tryd.prog Tryd.f3 false true false false W args v W' := by
  have hL' : laidMet Tryd.prog Rows.extractFindsRow.laid W := hL
  have hW' := hW
  obtain ⟨pp, qq, hA0, hV, rfl, hfz, hnd⟩ := hW
  have hA : DataW.TrodAll enc Tryd.prog W 0 (fun _ => true) true Tryd.f3.params.toList args.toList ds pp := hA0
  rw [Tryd.params3] at hA hval
  obtain ⟨v0, vs0, d0, ds0, p0, q0, hargs, rfl, rfl, h0, r0⟩ := trodAll_cons hA
  obtain ⟨v1, vs1, d1, ds1, p1, q1, rfl, rfl, rfl, h1, r1⟩ := trodAll_cons r0
  obtain ⟨rfl, rfl, rfl⟩ := trodAll_nil r1
  obtain rfl : args = #[v0, v1] := by cases args; simp_all
  obtain ⟨q, c, L, rfl, hp⟩ := open_parts (hval 0 _ v0 rfl rfl) h0
  obtain ⟨q2, c2, L2, rfl, hp2⟩ := open_parts (hval 1 _ v1 rfl rfl) h1
  have hS : Sha.Tabs W := sha_tabs hL' (by simp [Rows.extractFindsRow]) (by simp [Rows.extractFindsRow])
  have hR : Ref.Tabs W := ref_tabs hL' (by simp [Rows.extractFindsRow]) (by simp [Rows.extractFindsRow])
  refine (Fnd.extractFinds_any q c L q2 c2 L2 W hS hR hp hp2).mono fun e W' ⟨he, hb⟩ => ?_
  exact ⟨_, he, law_post laidOut mapsRow sliceFull (by kernel_rfl) (by kernel_rfl) Tryd.underlying4 rfl hW' (fun gs hg => by subst hg; rfl) hb⟩
/-- A world for the witness: the tables hold what their initialisers lay. -/
def lay (g : Nat) (c : Array Value) (h : Array Obj) : Array Obj := h.modify g fun | .cells _ t frozen => .cells c t frozen | o => o
noncomputable def laidWorld (os : Os) : World := { World.holding Tryd.prog os ⟨#[], #[], []⟩ with heap := lay 1 (Ref.cI Sha.KK) (lay 0 (Ref.cI Sha.HH) (lay 3 (Sha.cells Sha.KK) (lay 2 (Sha.cells Sha.HH) ((World.holding Tryd.prog os ⟨#[], #[], []⟩).heap)))) }
theorem laid_met (os : Os) : laidMet Tryd.prog Rows.extractFindsRow.laid ((laidWorld os).forCall (fun _ _ => 0) ⟨#[], #[.slice none 0 0, .slice none 0 0], []⟩).memory :=
  laidMet_of_run' 8 (by kernel_rfl) (by kernel_rfl)
theorem reads (os : Os) {H : Type} (enc : TypeId × Value → H) : ∃ places, DataW.whole enc Tryd.prog ((laidWorld os).forCall (fun _ _ => 0) ⟨#[], #[.slice none 0 0, .slice none 0 0], []⟩).memory Tryd.f3.params.toList Rows.extractFindsSpec.vars false (#[.slice none 0 0, .slice none 0 0] : Array Value).toList 8 = some ([.nil, .nil], [], places) :=
  ⟨[], by kernel_rfl⟩
set_option maxRecDepth 100000 in
theorem lifted (os : Os) (started : os.Started) (H : Type) (enc : TypeId × Value → H) (F : Stop.Interp) :
    ReturnsInHanded {} Tryd.checked os 3 .any ((OpenSpec.ofChange Rows.extractFindsSpec).preRow enc Tryd.prog Tryd.f3 Rows.extractFindsRow.domain false Rows.extractFindsRow.laid) (((OpenSpec.ofChange Rows.extractFindsSpec).at F).post enc Tryd.prog Tryd.f3 false true false false) := by
  obtain ⟨places, hx⟩ := reads os enc
  refine returnsInHanded_of_row (C := Tryd.checked) (s := OpenSpec.ofChange Rows.extractFindsSpec) own started (by kernel_rfl) Tryd.func3
    (witness_row_at (enc := enc) (C := Tryd.checked) false (laidWorld os) #[.slice none 0 0, .slice none 0 0] rfl (by kernel_rfl) (by kernel_rfl) (by kernel_rfl)
      (OpenSpec.preRow_of_cond 8 hx (by kernel_rfl) (fun k hk => by cases hk) (by kernel_rfl) (laid_met os))) ?_
  intro W base args ds gs before hval hW _ _ _ hL _ _
  exact contract H enc W base args ds gs before hval hW hL
theorem said : Rows.ExtractFindsSaid :=
  OpenClaim.holds_of_cond 3 Tryd.f3 rfl rfl rfl rfl rfl rfl rfl ⟨rfl, rfl, rfl, rfl, rfl⟩ rfl rfl rfl rfl rfl (by kernel_rfl) Tryd.func3 (by kernel_rfl)
    (of_decide_eq_true (by kernel_rfl)) (by unfold Func.isWrapper; first | (rw [if_pos (by decide +kernel)]; kernel_rfl) | (rw [if_neg (by decide +kernel)]; exact ⟨rfl, rfl⟩))
    (fun os started H enc _ F => by rw [OpenClaim.pre_eq_preRow]; exact lifted os started H enc F)
theorem plain (f : FuncId) (fn : Func) (hf : Tryd.pinned.checked.prog.funcNamed "custumal/custumallaw30.ExtractFinds" = some f) (hfn : Tryd.pinned.checked.prog.funcs[f]? = some fn) :
    false = Tryd.pinned.checked.prog.looks [] ∧ ∀ (j : Nat) t, fn.params[j]? = some t → Tryd.pinned.checked.prog.wantsStandIn t = false := by
  obtain rfl : f = 3 := Option.some.inj ((show Tryd.prog.funcNamed "custumal/custumallaw30.ExtractFinds" = some 3 by kernel_rfl).symm.trans hf) |>.symm
  obtain rfl : fn = Tryd.f3 := (Option.some.inj (Tryd.func3.symm.trans hfn)).symm
  refine ⟨by kernel_rfl, fun j t ht => ?_⟩
  rw [Tryd.params3] at ht
  have hm := Array.mem_of_getElem? ht
  simp only [List.mem_toArray, List.mem_cons, List.not_mem_nil, or_false] at hm
  rcases hm with rfl | rfl
  · exact (show Tryd.prog.wantsStandIn 22 = false by kernel_rfl)
  · exact (show Tryd.prog.wantsStandIn 22 = false by kernel_rfl)
/-- The card. -/
theorem card : Rows.ExtractFindsCardSaid :=
  Claim7.holds_tied_plain_at .later [] _ _ _ _ said (fun _ h => by cases h) (by kernel_rfl) (fun _ h => by cases h) extractFinds_row_tie rfl ⟨rfl, rfl⟩ (by kernel_rfl) rfl plain (by kernel_rfl)
end Go.Proofs.YtmkoiddfkanmiaaDoor.extractFinds
namespace Go.Proofs.YtmkoiddfkanmiaaDoor
theorem extractFinds_holds : Rows.ExtractFindsCardSaid := extractFinds.card
end Go.Proofs.YtmkoiddfkanmiaaDoor

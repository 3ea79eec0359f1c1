/- CadenceApart: for every two numbers and every row of jobs the law answers true. No condition beyond the row's own. -/
import Derived.Test.YtmkoiddfkanmiaaWrapS
import Derived.Test.YtmkoiddfkanmiaaCadP
namespace Go.Proofs.Ytmkoiddfkanmiaa.cadenceApart
open Go.ChangeShapes Go.WideShapes Go.ChangeAt Go.RowKit Mem Wrap
set_option maxRecDepth 100000 in
theorem lifted (os : Os) (started : os.Started) (H : Type) (enc : TypeId × Value → H) :
    ReturnsInHanded {} Try.checked os 4 .any (Rows.cadenceApartSpec.pre6 enc Try.prog Try.f4 Rows.cadenceApartRow.domain false) (Rows.cadenceApartSpec.post enc Try.prog Try.f4 false true false false) := by
  refine returnsInHanded_of_change (C := Try.checked) own started (by kernel_rfl) Try.func4
    (ChangeSpec.witness6 (enc := enc) (C := Try.checked) false ⟨#[], #[.int .i64 0, .int .i64 0, .slice none 0 0], []⟩ 8 (by kernel_rfl) (by kernel_rfl) (by kernel_rfl) (by kernel_rfl)) ?_
  intro W base args ds gs before hval0 hW hcnd _
  have hval : ∀ (j : Nat) t v, Try.f4.params[j]? = some t → args[j]? = some v → Value.okWide Try.prog W .any base t v := hval0
  have hW' := hW
  obtain ⟨pp, qq, hA0, hV, rfl, hfz, hnd⟩ := hW
  have hA : DataW.TrodAll enc Try.prog W 0 (fun _ => true) true Try.f4.params.toList args.toList ds pp := hA0
  rw [Try.params4] at hA hval
  obtain ⟨v0, vs0, d0, ds0, p0, q0, hargs, rfl, rfl, h0, r0⟩ := trodAll_cons hA
  obtain ⟨v1, vs1, d1, ds1, p1, q1, rfl, rfl, rfl, h1, r1⟩ := trodAll_cons r0
  obtain ⟨v2, vs2, d2, ds2, p2, q2, rfl, rfl, rfl, h2, r2⟩ := trodAll_cons r1
  obtain ⟨rfl, rfl, rfl⟩ := trodAll_nil r2
  obtain rfl : args = #[v0, v1, v2] := by cases args; simp_all
  obtain ⟨n0, rfl, _, _⟩ := open_i64 (hval 0 _ v0 rfl rfl)
  obtain ⟨n1, rfl, _, hn1⟩ := open_i64 (hval 1 _ v1 rfl rfl)
  obtain ⟨q, c, J, rfl, hJ, hok⟩ := open_jobs (hval 2 _ v2 rfl rfl) h2
  refine (Cad.apart_any n0 n1 q c J W hJ hok hn1).mono fun e W' ⟨he, hb⟩ => ?_
  exact ⟨_, he, law_post laidOut mapsRow sliceFull (by kernel_rfl) (by kernel_rfl) Try.underlying4 rfl hW' (fun gs hg => by subst hg; rfl) hb⟩
end Go.Proofs.Ytmkoiddfkanmiaa.cadenceApart
namespace Go.Proofs.Ytmkoiddfkanmiaa
open Go.ChangeShapes Go.WideShapes Go.ChangeAt Go.RowKit
theorem cadenceApart_holds : Rows.CadenceApartSaid :=
  OpenClaim.holds_of_wide 4 Try.f4 rfl rfl rfl rfl rfl rfl rfl ⟨rfl, rfl, rfl, rfl, rfl⟩ rfl rfl rfl rfl rfl (by kernel_rfl) Try.func4 (by kernel_rfl)
    (of_decide_eq_true (by kernel_rfl)) (by unfold Func.isWrapper; first | (rw [if_pos (by decide +kernel)]; kernel_rfl) | (rw [if_neg (by decide +kernel)]; exact ⟨rfl, rfl⟩))
    (fun os started H enc _ => cadenceApart.lifted os started H enc)
end Go.Proofs.Ytmkoiddfkanmiaa

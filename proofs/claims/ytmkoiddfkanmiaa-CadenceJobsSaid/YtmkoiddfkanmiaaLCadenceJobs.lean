/- CadenceJobs: for every number and every row of jobs the law answers true. No condition beyond the row's own. -/
import Derived.Test.YtmkoiddfkanmiaaWrapS
import Derived.Test.YtmkoiddfkanmiaaCadY
namespace Go.Proofs.Ytmkoiddfkanmiaa.cadenceJobs
open Go.ChangeShapes Go.WideShapes Go.ChangeAt Go.RowKit Mem Wrap
set_option maxRecDepth 100000 in
theorem lifted (os : Os) (started : os.Started) (H : Type) (enc : TypeId × Value → H) :
    ReturnsInHanded {} Try.checked os 5 .any (Rows.cadenceJobsSpec.pre6 enc Try.prog Try.f5 Rows.cadenceJobsRow.domain false) (Rows.cadenceJobsSpec.post enc Try.prog Try.f5 false true false false) := by
  refine returnsInHanded_of_change (C := Try.checked) own started (by kernel_rfl) Try.func5
    (ChangeSpec.witness6 (enc := enc) (C := Try.checked) false ⟨#[], #[.int .i64 0, .slice none 0 0], []⟩ 8 (by kernel_rfl) (by kernel_rfl) (by kernel_rfl) (by kernel_rfl)) ?_
  intro W base args ds gs before hval0 hW hcnd _
  have hval : ∀ (j : Nat) t v, Try.f5.params[j]? = some t → args[j]? = some v → Value.okWide Try.prog W .any base t v := hval0
  have hW' := hW
  obtain ⟨pp, qq, hA0, hV, rfl, hfz, hnd⟩ := hW
  have hA : DataW.TrodAll enc Try.prog W 0 (fun _ => true) true Try.f5.params.toList args.toList ds pp := hA0
  rw [Try.params5] at hA hval
  obtain ⟨v0, vs0, d0, ds0, p0, q0, hargs, rfl, rfl, h0, r0⟩ := trodAll_cons hA
  obtain ⟨v1, vs1, d1, ds1, p1, q1, rfl, rfl, rfl, h1, r1⟩ := trodAll_cons r0
  obtain ⟨rfl, rfl, rfl⟩ := trodAll_nil r1
  obtain rfl : args = #[v0, v1] := by cases args; simp_all
  obtain ⟨n0, rfl, _, hn0⟩ := open_i64 (hval 0 _ v0 rfl rfl)
  obtain ⟨q, c, J, rfl, hJ, hok⟩ := open_jobs (hval 1 _ v1 rfl rfl) h1
  refine (Cad.jobs_any n0 q c J W hJ hok hn0).mono fun e W' ⟨he, hb⟩ => ?_
  exact ⟨_, he, law_post laidOut mapsRow sliceFull (by kernel_rfl) (by kernel_rfl) Try.underlying4 rfl hW' (fun gs hg => by subst hg; rfl) hb⟩
end Go.Proofs.Ytmkoiddfkanmiaa.cadenceJobs
namespace Go.Proofs.Ytmkoiddfkanmiaa
open Go.ChangeShapes Go.WideShapes Go.ChangeAt Go.RowKit
theorem cadenceJobs_holds : Rows.CadenceJobsSaid :=
  OpenClaim.holds_of_wide 5 Try.f5 rfl rfl rfl rfl rfl rfl rfl ⟨rfl, rfl, rfl, rfl, rfl⟩ rfl rfl rfl rfl rfl (by kernel_rfl) Try.func5 (by kernel_rfl)
    (of_decide_eq_true (by kernel_rfl)) (by unfold Func.isWrapper; first | (rw [if_pos (by decide +kernel)]; kernel_rfl) | (rw [if_neg (by decide +kernel)]; exact ⟨rfl, rfl⟩))
    (fun os started H enc _ => cadenceJobs.lifted os started H enc)
end Go.Proofs.Ytmkoiddfkanmiaa

/- Signatures: proofs, what was found, how one stands. Plain; no condition. -/
import Derived.Test.YtmonkggoilhngaaGreatDoorCodP
import Derived.Test.YtmonkggoilhngaaGreatDoorGAbK
namespace Go.Proofs.YtmonkggoilhngaaGreatDoor
open Go.RowKit
namespace Ab
theorem rtake_sig : SigOk Tryz.prog gtL 87 [PR0] (.t2 (.agg (proofK 256)) TI64) := ptake_sig
def s_rtake : List (Nat × List T × T) := (87, [PR0], .t2 (.agg (proofK 256)) TI64) :: s_rsums
theorem s_rtake_ok : ∀ x ∈ s_rtake, SigOk Tryz.prog gtL x.1 x.2.1 x.2.2 := more_ok s_rsums_ok rtake_sig
theorem rproof_sig : SigOk Tryz.prog gtL 65 [PR1] (.agg (proofK 256)) := sig_ok (cx_ok s_rtake_ok) 10 Tryz.func65 (by kernel_rfl)
def s_rproof : List (Nat × List T × T) := (65, [PR1], .agg (proofK 256)) :: s_rtake
theorem s_rproof_ok : ∀ x ∈ s_rproof, SigOk Tryz.prog gtL x.1 x.2.1 x.2.2 := more_ok s_rtake_ok rproof_sig
theorem rfound_sig : SigOk Tryz.prog gtL 34 [PR1] (.agg foundK) := sig_ok (cx_ok s_rproof_ok) 10 Tryz.func34 (by kernel_rfl)
def s_rfound : List (Nat × List T × T) := (34, [PR1], .agg foundK) :: s_rproof
theorem s_rfound_ok : ∀ x ∈ s_rfound, SigOk Tryz.prog gtL x.1 x.2.1 x.2.2 := more_ok s_rproof_ok rfound_sig
theorem runder_sig : SigOk Tryz.prog gtL 37 [PR1] (.agg underK) := sig_ok (cx_ok s_rfound_ok) 10 Tryz.func37 (by kernel_rfl)
def s_runder : List (Nat × List T × T) := (37, [PR1], .agg underK) :: s_rfound
theorem s_runder_ok : ∀ x ∈ s_runder, SigOk Tryz.prog gtL x.1 x.2.1 x.2.2 := more_ok s_rfound_ok runder_sig
theorem rmember_sig : SigOk Tryz.prog gtL 41 [PR1] (.agg memberK) := sig_ok (cx_ok s_runder_ok) 10 Tryz.func41 (by kernel_rfl)
def s_rmember : List (Nat × List T × T) := (41, [PR1], .agg memberK) :: s_runder
theorem s_rmember_ok : ∀ x ∈ s_rmember, SigOk Tryz.prog gtL x.1 x.2.1 x.2.2 := more_ok s_runder_ok rmember_sig
end Ab
end Go.Proofs.YtmonkggoilhngaaGreatDoor
/- Signatures: rows of versions. Plain; no condition. -/
namespace Go.Proofs.YtmonkggoilhngaaGreatDoor
open Go.RowKit
namespace Ab
def entK : List K := [.int .i64, .int .i64, .sl 1]
noncomputable def entG (k : Nat) : Env := envOf Tryz.f38.ntmps [(0, PR1), (2, .nl), (3, .ow entK 0 k), (6, .int .i64 0 1024), (7, .int .i64 k k)]
noncomputable def entD : Env := envOf Tryz.f38.ntmps [(2, .nl), (3, .ow entK 0 1024)]
noncomputable def entR : Env := envOf Tryz.f38.ntmps [(2, .ow entK 0 1024)]
noncomputable def entX : Code := loopAt Tryz.f38 0
noncomputable def entB (k : Nat) : Bool := chkR (absK (cx s_rmember) 10 entX (entG k)) (some (entG (k + 1))) (some entR) [(0, entD)]
set_option maxHeartbeats 0 in
theorem entC0 : ((List.range 256).all fun k => entB (0 + k)) = true := by kernel_rfl
set_option maxHeartbeats 0 in
theorem entC256 : ((List.range 256).all fun k => entB (256 + k)) = true := by kernel_rfl
set_option maxHeartbeats 0 in
theorem entC512 : ((List.range 256).all fun k => entB (512 + k)) = true := by kernel_rfl
set_option maxHeartbeats 0 in
theorem entC768 : ((List.range 256).all fun k => entB (768 + k)) = true := by kernel_rfl
theorem entE : chkR (absK (cx s_rmember) 10 entX (entG 1024)) none (some entR) [(0, entD)] = true := by kernel_rfl
theorem ent_round (k : Nat) (hk : k < 1024) : entB k = true := by
  by_cases h0 : k < 256
  · exact all_ok 0 256 entC0 k (by omega) h0
  by_cases h256 : k < 512
  · exact all_ok 256 256 entC256 k (by omega) h256
  by_cases h512 : k < 768
  · exact all_ok 512 256 entC512 k (by omega) h512
  exact all_ok 768 256 entC768 k (by omega) (by omega)
theorem ent_does : ∀ x, Tryz.f38.body = some x → Does (cx s_rmember) x (env0 Tryz.f38.ntmps 0 [PR1]) none (some entR) [] := by
  intro x hx
  injection hx with hx
  subst hx
  refine Does.seq (Γ1 := envOf Tryz.f38.ntmps [(0, PR1), (2, .nl)]) (does (cx_ok s_rmember_ok) 10 (by kernel_rfl)) ?_
  refine Does.seq (Γ1 := envOf Tryz.f38.ntmps [(0, PR1), (2, .nl), (3, .nl)]) (does (cx_ok s_rmember_ok) 10 (by kernel_rfl)) ?_
  refine Does.seq (Γ1 := entD) ?_ (does (cx_ok s_rmember_ok) 10 (by kernel_rfl))
  refine Does.seq (Γ1 := entG 0) (does (cx_ok s_rmember_ok) 10 (by kernel_rfl)) ?_
  refine Does.block ?_
  exact Does.loop (x := entX) 1024 entG [(0, entD)] (fun k hk => does (cx_ok s_rmember_ok) 10 (ent_round k hk)) (does (cx_ok s_rmember_ok) 10 entE)
theorem rentries_sig : SigOk Tryz.prog gtL 38 [PR1] (.ow entK 0 1024) := fun _ _ _ hw hvs =>
  .inr (calls_of_does (cx_ok s_rmember_ok) Tryz.func38 rfl (by kernel_rfl) (ent_does _ rfl) (by kernel_rfl) (by kernel_rfl) hw hvs)
def s_rentries : List (Nat × List T × T) := (38, [PR1], .ow entK 0 1024) :: s_rmember
theorem s_rentries_ok : ∀ x ∈ s_rentries, SigOk Tryz.prog gtL x.1 x.2.1 x.2.2 := more_ok s_rmember_ok rentries_sig
end Ab
end Go.Proofs.YtmonkggoilhngaaGreatDoor
/- Signatures: rows of marks. Plain; no condition. -/
namespace Go.Proofs.YtmonkggoilhngaaGreatDoor
open Go.RowKit
namespace Ab
def mrkK : List K := .int .i64 :: b32 ++ b32
noncomputable def mrkG (k : Nat) : Env := envOf Tryz.f39.ntmps [(0, PR1), (2, .nl), (3, .ow mrkK 0 k), (6, .int .i64 0 1024), (7, .int .i64 k k)]
noncomputable def mrkD : Env := envOf Tryz.f39.ntmps [(2, .nl), (3, .ow mrkK 0 1024)]
noncomputable def mrkR : Env := envOf Tryz.f39.ntmps [(2, .ow mrkK 0 1024)]
noncomputable def mrkX : Code := loopAt Tryz.f39 0
noncomputable def mrkB (k : Nat) : Bool := chkR (absK (cx s_rentries) 10 mrkX (mrkG k)) (some (mrkG (k + 1))) (some mrkR) [(0, mrkD)]
set_option maxHeartbeats 0 in
theorem mrkC0 : ((List.range 256).all fun k => mrkB (0 + k)) = true := by kernel_rfl
set_option maxHeartbeats 0 in
theorem mrkC256 : ((List.range 256).all fun k => mrkB (256 + k)) = true := by kernel_rfl
set_option maxHeartbeats 0 in
theorem mrkC512 : ((List.range 256).all fun k => mrkB (512 + k)) = true := by kernel_rfl
set_option maxHeartbeats 0 in
theorem mrkC768 : ((List.range 256).all fun k => mrkB (768 + k)) = true := by kernel_rfl
theorem mrkE : chkR (absK (cx s_rentries) 10 mrkX (mrkG 1024)) none (some mrkR) [(0, mrkD)] = true := by kernel_rfl
theorem mrk_round (k : Nat) (hk : k < 1024) : mrkB k = true := by
  by_cases h0 : k < 256
  · exact all_ok 0 256 mrkC0 k (by omega) h0
  by_cases h256 : k < 512
  · exact all_ok 256 256 mrkC256 k (by omega) h256
  by_cases h512 : k < 768
  · exact all_ok 512 256 mrkC512 k (by omega) h512
  exact all_ok 768 256 mrkC768 k (by omega) (by omega)
theorem mrk_does : ∀ x, Tryz.f39.body = some x → Does (cx s_rentries) x (env0 Tryz.f39.ntmps 0 [PR1]) none (some mrkR) [] := by
  intro x hx
  injection hx with hx
  subst hx
  refine Does.seq (Γ1 := envOf Tryz.f39.ntmps [(0, PR1), (2, .nl)]) (does (cx_ok s_rentries_ok) 10 (by kernel_rfl)) ?_
  refine Does.seq (Γ1 := envOf Tryz.f39.ntmps [(0, PR1), (2, .nl), (3, .nl)]) (does (cx_ok s_rentries_ok) 10 (by kernel_rfl)) ?_
  refine Does.seq (Γ1 := mrkD) ?_ (does (cx_ok s_rentries_ok) 10 (by kernel_rfl))
  refine Does.seq (Γ1 := mrkG 0) (does (cx_ok s_rentries_ok) 10 (by kernel_rfl)) ?_
  refine Does.block ?_
  exact Does.loop (x := mrkX) 1024 mrkG [(0, mrkD)] (fun k hk => does (cx_ok s_rentries_ok) 10 (mrk_round k hk)) (does (cx_ok s_rentries_ok) 10 mrkE)
theorem rmarks_sig : SigOk Tryz.prog gtL 39 [PR1] (.ow mrkK 0 1024) := fun _ _ _ hw hvs =>
  .inr (calls_of_does (cx_ok s_rentries_ok) Tryz.func39 rfl (by kernel_rfl) (mrk_does _ rfl) (by kernel_rfl) (by kernel_rfl) hw hvs)
def s_rmarks : List (Nat × List T × T) := (39, [PR1], .ow mrkK 0 1024) :: s_rentries
theorem s_rmarks_ok : ∀ x ∈ s_rmarks, SigOk Tryz.prog gtL x.1 x.2.1 x.2.2 := more_ok s_rentries_ok rmarks_sig
end Ab
end Go.Proofs.YtmonkggoilhngaaGreatDoor
/- Signatures: an answer. Plain; no condition. -/
namespace Go.Proofs.YtmonkggoilhngaaGreatDoor
open Go.RowKit
namespace Ab
theorem rrest_sig : SigOk Tryz.prog gtL 15 [PR1, .ptr true answerK 0] (.any) := sig_ok (cx_ok s_rmarks_ok) 10 Tryz.func15 (by kernel_rfl)
def s_rrest : List (Nat × List T × T) := (15, [PR1, .ptr true answerK 0], .any) :: s_rmarks
theorem s_rrest_ok : ∀ x ∈ s_rrest, SigOk Tryz.prog gtL x.1 x.2.1 x.2.2 := more_ok s_rmarks_ok rrest_sig
theorem rright_sig : SigOk Tryz.prog gtL 16 [PR1] (.bool) := sig_ok (cx_ok s_rrest_ok) 10 Tryz.func16 (by kernel_rfl)
def s_rright : List (Nat × List T × T) := (16, [PR1], .bool) :: s_rrest
theorem s_rright_ok : ∀ x ∈ s_rright, SigOk Tryz.prog gtL x.1 x.2.1 x.2.2 := more_ok s_rrest_ok rright_sig
theorem told_sig : SigOk Tryz.prog gtL 5 [.sl 1] (.t2 (.agg answerK) TI64) := sig_ok (cx_ok s_rright_ok) 10 Tryz.func5 (by kernel_rfl)
def s_told : List (Nat × List T × T) := (5, [.sl 1], .t2 (.agg answerK) TI64) :: s_rright
theorem s_told_ok : ∀ x ∈ s_told, SigOk Tryz.prog gtL x.1 x.2.1 x.2.2 := more_ok s_rright_ok told_sig
end Ab
end Go.Proofs.YtmonkggoilhngaaGreatDoor

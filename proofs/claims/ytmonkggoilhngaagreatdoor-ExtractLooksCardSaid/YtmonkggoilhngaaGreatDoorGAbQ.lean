/- Signatures: signatures, super-roots' texts. Plain; no condition. -/
import Derived.Test.YtmonkggoilhngaaGreatDoorGAbL
import Derived.Test.YtmonkggoilhngaaGreatDoorSh5
import Derived.Test.YtmonkggoilhngaaGreatDoorGAbK
import Derived.Test.YtmonkggoilhngaaGreatDoorGAbC
namespace Go.Proofs.YtmonkggoilhngaaGreatDoor
open Go.RowKit
namespace Ab
theorem sum5_sig : SigOk Tryz.prog gtL 101 [.ow [.sl 1] 1 8] (.agg b64) := sum5_ok
def s_sum5 : List (Nat × List T × T) := (101, [.ow [.sl 1] 1 8], .agg b64) :: s_told
theorem s_sum5_ok : ∀ x ∈ s_sum5, SigOk Tryz.prog gtL x.1 x.2.1 x.2.2 := more_ok s_told_ok sum5_sig
theorem snum_sig : SigOk Tryz.prog gtL 90 [.ow [.sl 1] 1 8] (E4) := sig_ok (cx_ok s_sum5_ok) 10 Tryz.func90 (by kernel_rfl)
def s_snum : List (Nat × List T × T) := (90, [.ow [.sl 1] 1 8], E4) :: s_sum5
theorem s_snum_ok : ∀ x ∈ s_snum, SigOk Tryz.prog gtL x.1 x.2.1 x.2.2 := more_ok s_sum5_ok snum_sig
theorem verify8_sig : SigOk Tryz.prog gtL 67 [A32, .sl 1, .agg b64] (TI64) := sig_ok (cx_ok s_snum_ok) 10 Tryz.func67 (by kernel_rfl)
def s_verify8 : List (Nat × List T × T) := (67, [A32, .sl 1, .agg b64], TI64) :: s_snum
theorem s_verify8_ok : ∀ x ∈ s_verify8, SigOk Tryz.prog gtL x.1 x.2.1 x.2.2 := more_ok s_snum_ok verify8_sig
theorem num8_calls {σ : S} {w : World} {vs : Array Value} (hw : WT gtL σ w) (hvs : VTs σ vs.toList [TI64]) : (callFunc 73 vs).run Tryz.prog w = .ok (.enter 73 vs) w ∧ Calls Tryz.prog 73 vs w fun e w' => ∃ v, e = .returned v ∧ Ans gtL σ w v w' (.ow [B8] 8 8) := sig_calls (cx_ok s_verify8_ok) 20 Tryz.func73 (by kernel_rfl) hw hvs
theorem num8_sig : SigOk Tryz.prog gtL 73 [TI64] (.ow [B8] 8 8) := fun _ _ _ hw hvs => .inr (num8_calls hw hvs)
def s_num8 : List (Nat × List T × T) := (73, [TI64], .ow [B8] 8 8) :: s_verify8
theorem s_num8_ok : ∀ x ∈ s_num8, SigOk Tryz.prog gtL x.1 x.2.1 x.2.2 := more_ok s_verify8_ok num8_sig
theorem stext_calls {σ : S} {w : World} {vs : Array Value} (hw : WT gtL σ w) (hvs : VTs σ vs.toList [TI64, A32]) : (callFunc 68 vs).run Tryz.prog w = .ok (.enter 68 vs) w ∧ Calls Tryz.prog 68 vs w fun e w' => ∃ v, e = .returned v ∧ Ans gtL σ w v w' (.ow [B8] 41 41) := sig_calls (cx_ok s_num8_ok) 10 Tryz.func68 (by kernel_rfl) hw hvs
theorem stext_sig : SigOk Tryz.prog gtL 68 [TI64, A32] (.ow [B8] 41 41) := fun _ _ _ hw hvs => .inr (stext_calls hw hvs)
def s_stext : List (Nat × List T × T) := (68, [TI64, A32], .ow [B8] 41 41) :: s_num8
theorem s_stext_ok : ∀ x ∈ s_stext, SigOk Tryz.prog gtL x.1 x.2.1 x.2.2 := more_ok s_num8_ok stext_sig
theorem scheck_calls {σ : S} {w : World} {vs : Array Value} (hw : WT gtL σ w) (hvs : VTs σ vs.toList [A32, .agg signedK]) : (callFunc 43 vs).run Tryz.prog w = .ok (.enter 43 vs) w ∧ Calls Tryz.prog 43 vs w fun e w' => ∃ v, e = .returned v ∧ Ans gtL σ w v w' (TI64) := sig_calls (cx_ok s_stext_ok) 10 Tryz.func43 (by kernel_rfl) hw hvs
theorem scheck_sig : SigOk Tryz.prog gtL 43 [A32, .agg signedK] (TI64) := fun _ _ _ hw hvs => .inr (scheck_calls hw hvs)
def s_scheck : List (Nat × List T × T) := (43, [A32, .agg signedK], TI64) :: s_stext
theorem s_scheck_ok : ∀ x ∈ s_scheck, SigOk Tryz.prog gtL x.1 x.2.1 x.2.2 := more_ok s_stext_ok scheck_sig
end Ab
end Go.Proofs.YtmonkggoilhngaaGreatDoor
/- Signatures: keys of a tree. Plain; no condition. -/
namespace Go.Proofs.YtmonkggoilhngaaGreatDoor
open Go.RowKit
namespace Ab
set_option maxRecDepth 100000 in
set_option maxHeartbeats 1000000 in
theorem len8_any (n : Int) (h0 : 0 ≤ n) (h1 : n ≤ 255) (w : World) : Calls Tryz.prog 136 #[.int .u8 n] w fun e w' => ∃ z : Int, e = .returned (.int .i64 z) ∧ -9223372036854775808 ≤ z ∧ z ≤ 9223372036854775807 ∧ w' = w := by
  obtain ⟨m, rfl⟩ := Int.eq_ofNat_of_zero_le h0
  have hm : m < 256 := by omega
  have hmI : (m : Int) < 256 := by omega
  clear h1
  go_enter Tryz.func136, Tryz.ntmps136
  go_wp2_with fail
  go_ret
  exact ⟨_, rfl, by unfold wrap64; omega, by unfold wrap64; omega, rfl⟩
theorem len8_ok : SigOk Tryz.prog gtL 136 [.int .u8 0 255] TI64 := by
  intro σ w vs hw hv
  obtain ⟨x, rfl, ⟨n, rfl, h0, h1⟩⟩ := hv.one
  refine .inr ⟨by simp [callFunc, Tryz.func136, Tryz.f136, mark], (len8_any n h0 h1 w).mono ?_⟩
  rintro _ w' ⟨z, rfl, h2, h3, rfl⟩
  exact ⟨_, rfl, .stay hw ⟨z, rfl, h2, h3⟩⟩
theorem len8_sig : SigOk Tryz.prog gtL 136 [.int .u8 0 255] (TI64) := len8_ok
def s_len8 : List (Nat × List T × T) := (136, [.int .u8 0 255], TI64) :: s_scheck
theorem s_len8_ok : ∀ x ∈ s_len8, SigOk Tryz.prog gtL x.1 x.2.1 x.2.2 := more_ok s_scheck_ok len8_sig
theorem lead8_sig : SigOk Tryz.prog gtL 120 [.int .u8 0 255] (TI64) := sig_ok (cx_ok s_len8_ok) 10 Tryz.func120 (by kernel_rfl)
def s_lead8 : List (Nat × List T × T) := (120, [.int .u8 0 255], TI64) :: s_len8
theorem s_lead8_ok : ∀ x ∈ s_lead8, SigOk Tryz.prog gtL x.1 x.2.1 x.2.2 := more_ok s_len8_ok lead8_sig
theorem kcommon_sig : SigOk Tryz.prog gtL 96 [A32, A32] (TI64) := sig_ok (cx_ok s_lead8_ok) 40 Tryz.func96 (by kernel_rfl)
def s_kcommon : List (Nat × List T × T) := (96, [A32, A32], TI64) :: s_lead8
theorem s_kcommon_ok : ∀ x ∈ s_kcommon, SigOk Tryz.prog gtL x.1 x.2.1 x.2.2 := more_ok s_lead8_ok kcommon_sig
theorem kunder_calls {σ : S} {w : World} {vs : Array Value} (hw : WT gtL σ w) (hvs : VTs σ vs.toList [A32, A32, TI64]) : (callFunc 70 vs).run Tryz.prog w = .ok (.enter 70 vs) w ∧ Calls Tryz.prog 70 vs w fun e w' => ∃ v, e = .returned v ∧ Ans gtL σ w v w' (.bool) := sig_calls (cx_ok s_kcommon_ok) 10 Tryz.func70 (by kernel_rfl) hw hvs
theorem kunder_sig : SigOk Tryz.prog gtL 70 [A32, A32, TI64] (.bool) := fun _ _ _ hw hvs => .inr (kunder_calls hw hvs)
def s_kunder : List (Nat × List T × T) := (70, [A32, A32, TI64], .bool) :: s_kcommon
theorem s_kunder_ok : ∀ x ∈ s_kunder, SigOk Tryz.prog gtL x.1 x.2.1 x.2.2 := more_ok s_kcommon_ok kunder_sig
end Ab
end Go.Proofs.YtmonkggoilhngaaGreatDoor
/- The kinds of an answer's cells of which the bytes alone are known. Plain. -/
namespace Go.Proofs.YtmonkggoilhngaaGreatDoor
open Go.RowKit
namespace Ab
def toAny (κ : K) : K := match κ with
  | .int .u8 => .int .u8
  | _ => .any
def ansAny : List K := answerK.map toAny
end Ab
end Go.Proofs.YtmonkggoilhngaaGreatDoor
/- Signatures: the verifiable function's parts. Plain; no condition. -/
namespace Go.Proofs.YtmonkggoilhngaaGreatDoor
open Go.RowKit
namespace Ab
theorem peight_sig : SigOk Tryz.prog gtL 99 [P16] (P16) := sig_ok (cx_ok s_kunder_ok) 20 Tryz.func99 (by kernel_rfl)
def s_peight : List (Nat × List T × T) := (99, [P16], P16) :: s_kunder
theorem s_peight_ok : ∀ x ∈ s_peight, SigOk Tryz.prog gtL x.1 x.2.1 x.2.2 := more_ok s_kunder_ok peight_sig
theorem psame_sig : SigOk Tryz.prog gtL 100 [P16, P16] (.bool) := sig_ok (cx_ok s_peight_ok) 20 Tryz.func100 (by kernel_rfl)
def s_psame : List (Nat × List T × T) := (100, [P16, P16], .bool) :: s_peight
theorem s_psame_ok : ∀ x ∈ s_psame, SigOk Tryz.prog gtL x.1 x.2.1 x.2.2 := more_ok s_peight_ok psame_sig
theorem vwide_sig : SigOk Tryz.prog gtL 77 [.sl 1] (A32) := sig_ok (cx_ok s_psame_ok) 10 Tryz.func77 (by kernel_rfl)
def s_vwide : List (Nat × List T × T) := (77, [.sl 1], A32) :: s_psame
theorem s_vwide_ok : ∀ x ∈ s_vwide, SigOk Tryz.prog gtL x.1 x.2.1 x.2.2 := more_ok s_psame_ok vwide_sig
theorem vkey_sig : SigOk Tryz.prog gtL 74 [A32] (.t2 P16 TI64) := sig_ok (cx_ok s_vwide_ok) 20 Tryz.func74 (by kernel_rfl)
def s_vkey : List (Nat × List T × T) := (74, [A32], .t2 P16 TI64) :: s_vwide
theorem s_vkey_ok : ∀ x ∈ s_vkey, SigOk Tryz.prog gtL x.1 x.2.1 x.2.2 := more_ok s_vwide_ok vkey_sig
theorem vparts_sig : SigOk Tryz.prog gtL 75 [.agg b80] (.t3 P16 E4 TI64) := sig_ok (cx_ok s_vkey_ok) 20 Tryz.func75 (by kernel_rfl)
def s_vparts : List (Nat × List T × T) := (75, [.agg b80], .t3 P16 E4 TI64) :: s_vkey
theorem s_vparts_ok : ∀ x ∈ s_vparts, SigOk Tryz.prog gtL x.1 x.2.1 x.2.2 := more_ok s_vkey_ok vparts_sig
theorem vindex_sig : SigOk Tryz.prog gtL 56 [.agg b64] (A32) := sig_ok (cx_ok s_vparts_ok) 10 Tryz.func56 (by kernel_rfl)
def s_vindex : List (Nat × List T × T) := (56, [.agg b64], A32) :: s_vparts
theorem s_vindex_ok : ∀ x ∈ s_vindex, SigOk Tryz.prog gtL x.1 x.2.1 x.2.2 := more_ok s_vparts_ok vindex_sig
theorem vsum_sig : SigOk Tryz.prog gtL 84 [.agg b80] (.t2 (.agg b64) TI64) := sig_ok (cx_ok s_vindex_ok) 20 Tryz.func84 (by kernel_rfl)
def s_vsum : List (Nat × List T × T) := (84, [.agg b80], .t2 (.agg b64) TI64) :: s_vindex
theorem s_vsum_ok : ∀ x ∈ s_vsum, SigOk Tryz.prog gtL x.1 x.2.1 x.2.2 := more_ok s_vindex_ok vsum_sig
theorem vmark_sig : SigOk Tryz.prog gtL 83 [A32, .ow w16 4 4] (.ss true B8 16 16) := sig_ok (cx_ok s_vsum_ok) 60 Tryz.func83 (by kernel_rfl)
def s_vmark : List (Nat × List T × T) := (83, [A32, .ow w16 4 4], .ss true B8 16 16) :: s_vsum
theorem s_vmark_ok : ∀ x ∈ s_vmark, SigOk Tryz.prog gtL x.1 x.2.1 x.2.2 := more_ok s_vsum_ok vmark_sig
theorem vpoint_sig : SigOk Tryz.prog gtL 76 [A32, .sl 1] (.t2 P16 TI64) := sig_ok (cx_ok s_vmark_ok) 600 Tryz.func76 (by kernel_rfl)
def s_vpoint : List (Nat × List T × T) := (76, [A32, .sl 1], .t2 P16 TI64) :: s_vmark
theorem s_vpoint_ok : ∀ x ∈ s_vpoint, SigOk Tryz.prog gtL x.1 x.2.1 x.2.2 := more_ok s_vmark_ok vpoint_sig
theorem vcheck_sig : SigOk Tryz.prog gtL 55 [A32, .sl 1, .agg b80] (.t2 (.agg b64) TI64) := sig_ok (cx_ok s_vpoint_ok) 20 Tryz.func55 (by kernel_rfl)
def s_vcheck : List (Nat × List T × T) := (55, [A32, .sl 1, .agg b80], .t2 (.agg b64) TI64) :: s_vpoint
theorem s_vcheck_ok : ∀ x ∈ s_vcheck, SigOk Tryz.prog gtL x.1 x.2.1 x.2.2 := more_ok s_vpoint_ok vcheck_sig
theorem vix_calls {σ : S} {w : World} {vs : Array Value} (hw : WT gtL σ w) (hvs : VTs σ vs.toList [.agg ansAny, .sl 1]) : (callFunc 26 vs).run Tryz.prog w = .ok (.enter 26 vs) w ∧ Calls Tryz.prog 26 vs w fun e w' => ∃ v, e = .returned v ∧ Ans gtL σ w v w' (TI64) := sig_calls (cx_ok s_vcheck_ok) 20 Tryz.func26 (by kernel_rfl) hw hvs
end Ab
end Go.Proofs.YtmonkggoilhngaaGreatDoor

/- Signatures: signatures, super-roots' texts. Plain; no condition. -/
import Derived.Test.YtmonkggoilhngaaGreatDoorGAbL
import Derived.Test.YtmonkggoilhngaaGreatDoorSh5
import Derived.Test.YtmonkggoilhngaaGreatDoorGAbK
namespace Go.Proofs.YtmonkggoilhngaaGreatDoor
open Go.RowKit
namespace Ab
theorem sum5_sig : SigOk Tryz.prog gtL 101 [.ow [.sl 1] 1 8] (.agg b64) := sum5_ok
def s_sum5 : List (Nat × List T × T) := (101, [.ow [.sl 1] 1 8], .agg b64) :: s_told
theorem s_sum5_ok : ∀ x ∈ s_sum5, SigOk Tryz.prog gtL x.1 x.2.1 x.2.2 := more_ok s_told_ok sum5_sig
theorem snum_sig : SigOk Tryz.prog gtL 90 [.ow [.sl 1] 1 8] (E4) := sig_ok (cx_ok s_sum5_ok) 10 Tryz.func90 (by kernel_rfl)
def s_snum : List (Nat × List T × T) := (90, [.ow [.sl 1] 1 8], E4) :: s_sum5
theorem s_snum_ok : ∀ x ∈ s_snum, SigOk Tryz.prog gtL x.1 x.2.1 x.2.2 := more_ok s_sum5_ok snum_sig
theorem verify8_sig : SigOk Tryz.prog gtL 67 [A32, .sl 1, .agg b64] (TI64) := sig_ok (cx_ok s_snum_ok) 10 Tryz.func67 (by kernel_rfl)
def s_verify8 : List (Nat × List T × T) := (67, [A32, .sl 1, .agg b64], TI64) :: s_snum
theorem s_verify8_ok : ∀ x ∈ s_verify8, SigOk Tryz.prog gtL x.1 x.2.1 x.2.2 := more_ok s_snum_ok verify8_sig
theorem num8_calls {σ : S} {w : World} {vs : Array Value} (hw : WT gtL σ w) (hvs : VTs σ vs.toList [TI64]) : (callFunc 73 vs).run Tryz.prog w = .ok (.enter 73 vs) w ∧ Calls Tryz.prog 73 vs w fun e w' => ∃ v, e = .returned v ∧ Ans gtL σ w v w' (.ow [B8] 8 8) := sig_calls (cx_ok s_verify8_ok) 20 Tryz.func73 (by kernel_rfl) hw hvs
theorem num8_sig : SigOk Tryz.prog gtL 73 [TI64] (.ow [B8] 8 8) := fun _ _ _ hw hvs => .inr (num8_calls hw hvs)
def s_num8 : List (Nat × List T × T) := (73, [TI64], .ow [B8] 8 8) :: s_verify8
theorem s_num8_ok : ∀ x ∈ s_num8, SigOk Tryz.prog gtL x.1 x.2.1 x.2.2 := more_ok s_verify8_ok num8_sig
theorem stext_calls {σ : S} {w : World} {vs : Array Value} (hw : WT gtL σ w) (hvs : VTs σ vs.toList [TI64, A32]) : (callFunc 68 vs).run Tryz.prog w = .ok (.enter 68 vs) w ∧ Calls Tryz.prog 68 vs w fun e w' => ∃ v, e = .returned v ∧ Ans gtL σ w v w' (.ow [B8] 41 41) := sig_calls (cx_ok s_num8_ok) 10 Tryz.func68 (by kernel_rfl) hw hvs
theorem stext_sig : SigOk Tryz.prog gtL 68 [TI64, A32] (.ow [B8] 41 41) := fun _ _ _ hw hvs => .inr (stext_calls hw hvs)
def s_stext : List (Nat × List T × T) := (68, [TI64, A32], .ow [B8] 41 41) :: s_num8
theorem s_stext_ok : ∀ x ∈ s_stext, SigOk Tryz.prog gtL x.1 x.2.1 x.2.2 := more_ok s_num8_ok stext_sig
theorem scheck_calls {σ : S} {w : World} {vs : Array Value} (hw : WT gtL σ w) (hvs : VTs σ vs.toList [A32, .agg signedK]) : (callFunc 43 vs).run Tryz.prog w = .ok (.enter 43 vs) w ∧ Calls Tryz.prog 43 vs w fun e w' => ∃ v, e = .returned v ∧ Ans gtL σ w v w' (TI64) := sig_calls (cx_ok s_stext_ok) 10 Tryz.func43 (by kernel_rfl) hw hvs
theorem scheck_sig : SigOk Tryz.prog gtL 43 [A32, .agg signedK] (TI64) := fun _ _ _ hw hvs => .inr (scheck_calls hw hvs)
def s_scheck : List (Nat × List T × T) := (43, [A32, .agg signedK], TI64) :: s_stext
theorem s_scheck_ok : ∀ x ∈ s_scheck, SigOk Tryz.prog gtL x.1 x.2.1 x.2.2 := more_ok s_stext_ok scheck_sig
end Ab
end Go.Proofs.YtmonkggoilhngaaGreatDoor
/- Signatures: keys of a tree. Plain; no condition. -/
namespace Go.Proofs.YtmonkggoilhngaaGreatDoor
open Go.RowKit
namespace Ab
set_option maxRecDepth 100000 in
set_option maxHeartbeats 1000000 in
theorem len8_any (n : Int) (h0 : 0 ≤ n) (h1 : n ≤ 255) (w : World) : Calls Tryz.prog 136 #[.int .u8 n] w fun e w' => ∃ z : Int, e = .returned (.int .i64 z) ∧ -9223372036854775808 ≤ z ∧ z ≤ 9223372036854775807 ∧ w' = w := by
  obtain ⟨m, rfl⟩ := Int.eq_ofNat_of_zero_le h0
  have hm : m < 256 := by omega
  have hmI : (m : Int) < 256 := by omega
  clear h1
  go_enter Tryz.func136, Tryz.ntmps136
  go_wp2_with fail
  go_ret
  exact ⟨_, rfl, by unfold wrap64; omega, by unfold wrap64; omega, rfl⟩
theorem len8_ok : SigOk Tryz.prog gtL 136 [.int .u8 0 255] TI64 := by
  intro σ w vs hw hv
  obtain ⟨x, rfl, ⟨n, rfl, h0, h1⟩⟩ := hv.one
  refine .inr ⟨by simp [callFunc, Tryz.func136, Tryz.f136, mark], (len8_any n h0 h1 w).mono ?_⟩
  rintro _ w' ⟨z, rfl, h2, h3, rfl⟩
  exact ⟨_, rfl, .stay hw ⟨z, rfl, h2, h3⟩⟩
theorem len8_sig : SigOk Tryz.prog gtL 136 [.int .u8 0 255] (TI64) := len8_ok
def s_len8 : List (Nat × List T × T) := (136, [.int .u8 0 255], TI64) :: s_scheck
theorem s_len8_ok : ∀ x ∈ s_len8, SigOk Tryz.prog gtL x.1 x.2.1 x.2.2 := more_ok s_scheck_ok len8_sig
theorem lead8_sig : SigOk Tryz.prog gtL 120 [.int .u8 0 255] (TI64) := sig_ok (cx_ok s_len8_ok) 10 Tryz.func120 (by kernel_rfl)
def s_lead8 : List (Nat × List T × T) := (120, [.int .u8 0 255], TI64) :: s_len8
theorem s_lead8_ok : ∀ x ∈ s_lead8, SigOk Tryz.prog gtL x.1 x.2.1 x.2.2 := more_ok s_len8_ok lead8_sig
theorem kcommon_sig : SigOk Tryz.prog gtL 96 [A32, A32] (TI64) := sig_ok (cx_ok s_lead8_ok) 40 Tryz.func96 (by kernel_rfl)
def s_kcommon : List (Nat × List T × T) := (96, [A32, A32], TI64) :: s_lead8
theorem s_kcommon_ok : ∀ x ∈ s_kcommon, SigOk Tryz.prog gtL x.1 x.2.1 x.2.2 := more_ok s_lead8_ok kcommon_sig
theorem kunder_calls {σ : S} {w : World} {vs : Array Value} (hw : WT gtL σ w) (hvs : VTs σ vs.toList [A32, A32, TI64]) : (callFunc 70 vs).run Tryz.prog w = .ok (.enter 70 vs) w ∧ Calls Tryz.prog 70 vs w fun e w' => ∃ v, e = .returned v ∧ Ans gtL σ w v w' (.bool) := sig_calls (cx_ok s_kcommon_ok) 10 Tryz.func70 (by kernel_rfl) hw hvs
theorem kunder_sig : SigOk Tryz.prog gtL 70 [A32, A32, TI64] (.bool) := fun _ _ _ hw hvs => .inr (kunder_calls hw hvs)
def s_kunder : List (Nat × List T × T) := (70, [A32, A32, TI64], .bool) :: s_kcommon
theorem s_kunder_ok : ∀ x ∈ s_kunder, SigOk Tryz.prog gtL x.1 x.2.1 x.2.2 := more_ok s_kcommon_ok kunder_sig
end Ab
end Go.Proofs.YtmonkggoilhngaaGreatDoor

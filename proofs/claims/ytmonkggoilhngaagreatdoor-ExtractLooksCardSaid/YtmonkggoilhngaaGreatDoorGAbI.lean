/- Signatures: the field and the curve. Plain; no condition. -/
import Derived.Test.YtmonkggoilhngaaGreatDoorRest
namespace Go.Proofs.YtmonkggoilhngaaGreatDoor
open Go.RowKit
namespace Ab
theorem fmul_sig : SigOk Tryz.prog gtL 106 [E4, E4] (E4) := sig_ok (cx_ok s_frest_ok) 300 Tryz.func106 (by kernel_rfl)
def s_fmul : List (Nat × List T × T) := (106, [E4, E4], E4) :: s_frest
theorem s_fmul_ok : ∀ x ∈ s_fmul, SigOk Tryz.prog gtL x.1 x.2.1 x.2.2 := more_ok s_frest_ok fmul_sig
theorem fadd_sig : SigOk Tryz.prog gtL 108 [E4, E4] (E4) := sig_ok (cx_ok s_fmul_ok) 300 Tryz.func108 (by kernel_rfl)
def s_fadd : List (Nat × List T × T) := (108, [E4, E4], E4) :: s_fmul
theorem s_fadd_ok : ∀ x ∈ s_fadd, SigOk Tryz.prog gtL x.1 x.2.1 x.2.2 := more_ok s_fmul_ok fadd_sig
theorem fneg_sig : SigOk Tryz.prog gtL 109 [E4] (E4) := sig_ok (cx_ok s_fadd_ok) 300 Tryz.func109 (by kernel_rfl)
def s_fneg : List (Nat × List T × T) := (109, [E4], E4) :: s_fadd
theorem s_fneg_ok : ∀ x ∈ s_fneg, SigOk Tryz.prog gtL x.1 x.2.1 x.2.2 := more_ok s_fadd_ok fneg_sig
theorem fsub_sig : SigOk Tryz.prog gtL 107 [E4, E4] (E4) := sig_ok (cx_ok s_fneg_ok) 300 Tryz.func107 (by kernel_rfl)
def s_fsub : List (Nat × List T × T) := (107, [E4, E4], E4) :: s_fneg
theorem s_fsub_ok : ∀ x ∈ s_fsub, SigOk Tryz.prog gtL x.1 x.2.1 x.2.2 := more_ok s_fneg_ok fsub_sig
theorem fof_sig : SigOk Tryz.prog gtL 112 [A32] (E4) := sig_ok (cx_ok s_fsub_ok) 300 Tryz.func112 (by kernel_rfl)
def s_fof : List (Nat × List T × T) := (112, [A32], E4) :: s_fsub
theorem s_fof_ok : ∀ x ∈ s_fof, SigOk Tryz.prog gtL x.1 x.2.1 x.2.2 := more_ok s_fsub_ok fof_sig
theorem fbytes_sig : SigOk Tryz.prog gtL 113 [E4] (A32) := sig_ok (cx_ok s_fof_ok) 300 Tryz.func113 (by kernel_rfl)
def s_fbytes : List (Nat × List T × T) := (113, [E4], A32) :: s_fof
theorem s_fbytes_ok : ∀ x ∈ s_fbytes, SigOk Tryz.prog gtL x.1 x.2.1 x.2.2 := more_ok s_fof_ok fbytes_sig
theorem fsmall_sig : SigOk Tryz.prog gtL 135 [TU] (E4) := sig_ok (cx_ok s_fbytes_ok) 300 Tryz.func135 (by kernel_rfl)
def s_fsmall : List (Nat × List T × T) := (135, [TU], E4) :: s_fbytes
theorem s_fsmall_ok : ∀ x ∈ s_fsmall, SigOk Tryz.prog gtL x.1 x.2.1 x.2.2 := more_ok s_fbytes_ok fsmall_sig
theorem fpow_sig : SigOk Tryz.prog gtL 134 [E4, .agg w4] (E4) := sig_ok (cx_ok s_fsmall_ok) 300 Tryz.func134 (by kernel_rfl)
def s_fpow : List (Nat × List T × T) := (134, [E4, .agg w4], E4) :: s_fsmall
theorem s_fpow_ok : ∀ x ∈ s_fpow, SigOk Tryz.prog gtL x.1 x.2.1 x.2.2 := more_ok s_fsmall_ok fpow_sig
theorem finv_sig : SigOk Tryz.prog gtL 119 [E4] (E4) := sig_ok (cx_ok s_fpow_ok) 300 Tryz.func119 (by kernel_rfl)
def s_finv : List (Nat × List T × T) := (119, [E4], E4) :: s_fpow
theorem s_finv_ok : ∀ x ∈ s_finv, SigOk Tryz.prog gtL x.1 x.2.1 x.2.2 := more_ok s_fpow_ok finv_sig
theorem fsame_sig : SigOk Tryz.prog gtL 116 [E4, E4] (.bool) := sig_ok (cx_ok s_finv_ok) 300 Tryz.func116 (by kernel_rfl)
def s_fsame : List (Nat × List T × T) := (116, [E4, E4], .bool) :: s_finv
theorem s_fsame_ok : ∀ x ∈ s_fsame, SigOk Tryz.prog gtL x.1 x.2.1 x.2.2 := more_ok s_finv_ok fsame_sig
theorem fodd_sig : SigOk Tryz.prog gtL 117 [E4] (.bool) := sig_ok (cx_ok s_fsame_ok) 300 Tryz.func117 (by kernel_rfl)
def s_fodd : List (Nat × List T × T) := (117, [E4], .bool) :: s_fsame
theorem s_fodd_ok : ∀ x ∈ s_fodd, SigOk Tryz.prog gtL x.1 x.2.1 x.2.2 := more_ok s_fsame_ok fodd_sig
theorem froot_sig : SigOk Tryz.prog gtL 114 [E4, E4] (.t2 E4 .bool) := sig_ok (cx_ok s_fodd_ok) 300 Tryz.func114 (by kernel_rfl)
def s_froot : List (Nat × List T × T) := (114, [E4, E4], .t2 E4 .bool) :: s_fodd
theorem s_froot_ok : ∀ x ∈ s_froot, SigOk Tryz.prog gtL x.1 x.2.1 x.2.2 := more_ok s_fodd_ok froot_sig
theorem eone_sig : SigOk Tryz.prog gtL 115 [] (E4) := sig_ok (cx_ok s_froot_ok) 300 Tryz.func115 (by kernel_rfl)
def s_eone : List (Nat × List T × T) := (115, [], E4) :: s_froot
theorem s_eone_ok : ∀ x ∈ s_eone, SigOk Tryz.prog gtL x.1 x.2.1 x.2.2 := more_ok s_froot_ok eone_sig
theorem pwhole_sig : SigOk Tryz.prog gtL 104 [P16] (P16) := sig_ok (cx_ok s_eone_ok) 300 Tryz.func104 (by kernel_rfl)
def s_pwhole : List (Nat × List T × T) := (104, [P16], P16) :: s_eone
theorem s_pwhole_ok : ∀ x ∈ s_pwhole, SigOk Tryz.prog gtL x.1 x.2.1 x.2.2 := more_ok s_eone_ok pwhole_sig
theorem pof_sig : SigOk Tryz.prog gtL 103 [E4, E4] (P16) := sig_ok (cx_ok s_pwhole_ok) 300 Tryz.func103 (by kernel_rfl)
def s_pof : List (Nat × List T × T) := (103, [E4, E4], P16) :: s_pwhole
theorem s_pof_ok : ∀ x ∈ s_pof, SigOk Tryz.prog gtL x.1 x.2.1 x.2.2 := more_ok s_pwhole_ok pof_sig
theorem pbase_sig : SigOk Tryz.prog gtL 79 [] (P16) := sig_ok (cx_ok s_pof_ok) 300 Tryz.func79 (by kernel_rfl)
def s_pbase : List (Nat × List T × T) := (79, [], P16) :: s_pof
theorem s_pbase_ok : ∀ x ∈ s_pbase, SigOk Tryz.prog gtL x.1 x.2.1 x.2.2 := more_ok s_pof_ok pbase_sig
theorem padd_sig : SigOk Tryz.prog gtL 81 [P16, P16] (P16) := sig_ok (cx_ok s_pbase_ok) 300 Tryz.func81 (by kernel_rfl)
def s_padd : List (Nat × List T × T) := (81, [P16, P16], P16) :: s_pbase
theorem s_padd_ok : ∀ x ∈ s_padd, SigOk Tryz.prog gtL x.1 x.2.1 x.2.2 := more_ok s_pbase_ok padd_sig
theorem ptwice_sig : SigOk Tryz.prog gtL 105 [P16] (P16) := sig_ok (cx_ok s_padd_ok) 300 Tryz.func105 (by kernel_rfl)
def s_ptwice : List (Nat × List T × T) := (105, [P16], P16) :: s_padd
theorem s_ptwice_ok : ∀ x ∈ s_ptwice, SigOk Tryz.prog gtL x.1 x.2.1 x.2.2 := more_ok s_padd_ok ptwice_sig
theorem pneg_sig : SigOk Tryz.prog gtL 82 [P16] (P16) := sig_ok (cx_ok s_ptwice_ok) 300 Tryz.func82 (by kernel_rfl)
def s_pneg : List (Nat × List T × T) := (82, [P16], P16) :: s_ptwice
theorem s_pneg_ok : ∀ x ∈ s_pneg, SigOk Tryz.prog gtL x.1 x.2.1 x.2.2 := more_ok s_ptwice_ok pneg_sig
theorem ptimes_sig : SigOk Tryz.prog gtL 80 [P16, A32] (P16) := sig_ok (cx_ok s_pneg_ok) 300 Tryz.func80 (by kernel_rfl)
def s_ptimes : List (Nat × List T × T) := (80, [P16, A32], P16) :: s_pneg
theorem s_ptimes_ok : ∀ x ∈ s_ptimes, SigOk Tryz.prog gtL x.1 x.2.1 x.2.2 := more_ok s_pneg_ok ptimes_sig
theorem pdecode_sig : SigOk Tryz.prog gtL 89 [A32] (.t2 P16 TI64) := sig_ok (cx_ok s_ptimes_ok) 300 Tryz.func89 (by kernel_rfl)
def s_pdecode : List (Nat × List T × T) := (89, [A32], .t2 P16 TI64) :: s_ptimes
theorem s_pdecode_ok : ∀ x ∈ s_pdecode, SigOk Tryz.prog gtL x.1 x.2.1 x.2.2 := more_ok s_ptimes_ok pdecode_sig
theorem pencode_sig : SigOk Tryz.prog gtL 91 [P16] (A32) := sig_ok (cx_ok s_pdecode_ok) 300 Tryz.func91 (by kernel_rfl)
def s_pencode : List (Nat × List T × T) := (91, [P16], A32) :: s_pdecode
theorem s_pencode_ok : ∀ x ∈ s_pencode, SigOk Tryz.prog gtL x.1 x.2.1 x.2.2 := more_ok s_pdecode_ok pencode_sig
end Ab
end Go.Proofs.YtmonkggoilhngaaGreatDoor
/- Signatures: numbers, and sha5's blocks. Plain; no condition. -/
namespace Go.Proofs.YtmonkggoilhngaaGreatDoor
open Go.RowKit
namespace Ab
theorem nsub_sig : SigOk Tryz.prog gtL 133 [E4, E4] (.t2 E4 TC) := sig_ok (cx_ok s_pencode_ok) 300 Tryz.func133 (by kernel_rfl)
def s_nsub : List (Nat × List T × T) := (133, [E4, E4], .t2 E4 TC) :: s_pencode
theorem s_nsub_ok : ∀ x ∈ s_nsub, SigOk Tryz.prog gtL x.1 x.2.1 x.2.2 := more_ok s_pencode_ok nsub_sig
theorem nless_sig : SigOk Tryz.prog gtL 111 [E4, E4] (.bool) := sig_ok (cx_ok s_nsub_ok) 300 Tryz.func111 (by kernel_rfl)
def s_nless : List (Nat × List T × T) := (111, [E4, E4], .bool) :: s_nsub
theorem s_nless_ok : ∀ x ∈ s_nless, SigOk Tryz.prog gtL x.1 x.2.1 x.2.2 := more_ok s_nsub_ok nless_sig
theorem ntwice_sig : SigOk Tryz.prog gtL 124 [E4, TU] (E4) := sig_ok (cx_ok s_nless_ok) 300 Tryz.func124 (by kernel_rfl)
def s_ntwice : List (Nat × List T × T) := (124, [E4, TU], E4) :: s_nless
theorem s_ntwice_ok : ∀ x ∈ s_ntwice, SigOk Tryz.prog gtL x.1 x.2.1 x.2.2 := more_ok s_nless_ok ntwice_sig
theorem ncanon_sig : SigOk Tryz.prog gtL 88 [A32] (.t2 E4 .bool) := sig_ok (cx_ok s_ntwice_ok) 300 Tryz.func88 (by kernel_rfl)
def s_ncanon : List (Nat × List T × T) := (88, [A32], .t2 E4 .bool) :: s_ntwice
theorem s_ncanon_ok : ∀ x ∈ s_ncanon, SigOk Tryz.prog gtL x.1 x.2.1 x.2.2 := more_ok s_ntwice_ok ncanon_sig
theorem fold4_sig : SigOk Tryz.prog gtL 102 [.ss false U 4 4] (E4) := sig_ok (cx_ok s_ncanon_ok) 600 Tryz.func102 (by kernel_rfl)
def s_fold4 : List (Nat × List T × T) := (102, [.ss false U 4 4], E4) :: s_ncanon
theorem s_fold4_ok : ∀ x ∈ s_fold4, SigOk Tryz.prog gtL x.1 x.2.1 x.2.2 := more_ok s_ncanon_ok fold4_sig
theorem fold8_sig : SigOk Tryz.prog gtL 102 [.ss false U 8 8] (E4) := sig_ok (cx_ok s_fold4_ok) 600 Tryz.func102 (by kernel_rfl)
def s_fold8 : List (Nat × List T × T) := (102, [.ss false U 8 8], E4) :: s_fold4
theorem s_fold8_ok : ∀ x ∈ s_fold8, SigOk Tryz.prog gtL x.1 x.2.1 x.2.2 := more_ok s_fold4_ok fold8_sig
theorem sof64_sig : SigOk Tryz.prog gtL 118 [.ss false B8 64 64] (E4) := sig_ok (cx_ok s_fold8_ok) 600 Tryz.func118 (by kernel_rfl)
def s_sof64 : List (Nat × List T × T) := (118, [.ss false B8 64 64], E4) :: s_fold8
theorem s_sof64_ok : ∀ x ∈ s_sof64, SigOk Tryz.prog gtL x.1 x.2.1 x.2.2 := more_ok s_fold8_ok sof64_sig
theorem nbytes_sig : SigOk Tryz.prog gtL 78 [E4] (A32) := sig_ok (cx_ok s_sof64_ok) 300 Tryz.func78 (by kernel_rfl)
def s_nbytes : List (Nat × List T × T) := (78, [E4], A32) :: s_sof64
theorem s_nbytes_ok : ∀ x ∈ s_nbytes, SigOk Tryz.prog gtL x.1 x.2.1 x.2.2 := more_ok s_sof64_ok nbytes_sig
theorem rot64_sig : SigOk Tryz.prog gtL 141 [TU, TI64] (TU) := sig_ok (cx_ok s_nbytes_ok) 300 Tryz.func141 (by kernel_rfl)
def s_rot64 : List (Nat × List T × T) := (141, [TU, TI64], TU) :: s_nbytes
theorem s_rot64_ok : ∀ x ∈ s_rot64, SigOk Tryz.prog gtL x.1 x.2.1 x.2.2 := more_ok s_nbytes_ok rot64_sig
theorem turn5_sig : SigOk Tryz.prog gtL 139 [TU, TI64] (TU) := sig_ok (cx_ok s_rot64_ok) 300 Tryz.func139 (by kernel_rfl)
def s_turn5 : List (Nat × List T × T) := (139, [TU, TI64], TU) :: s_rot64
theorem s_turn5_ok : ∀ x ∈ s_turn5, SigOk Tryz.prog gtL x.1 x.2.1 x.2.2 := more_ok s_rot64_ok turn5_sig
theorem spread5_sig : SigOk Tryz.prog gtL 138 [.ss false B8 128 9000000] (.agg w80) := sig_ok (cx_ok s_turn5_ok) 300 Tryz.func138 (by kernel_rfl)
def s_spread5 : List (Nat × List T × T) := (138, [.ss false B8 128 9000000], .agg w80) :: s_turn5
theorem s_spread5_ok : ∀ x ∈ s_spread5, SigOk Tryz.prog gtL x.1 x.2.1 x.2.2 := more_ok s_turn5_ok spread5_sig
theorem press5_calls {σ : S} {w : World} {vs : Array Value} (hw : WT gtL σ w) (hvs : VTs σ vs.toList [.agg w8, .ss false B8 128 9000000]) : (callFunc 123 vs).run Tryz.prog w = .ok (.enter 123 vs) w ∧ Calls Tryz.prog 123 vs w fun e w' => ∃ v, e = .returned v ∧ Ans gtL σ w v w' (.agg w8) := sig_calls (cx_ok s_spread5_ok) 300 Tryz.func123 (by kernel_rfl) hw hvs
theorem press5_sig : SigOk Tryz.prog gtL 123 [.agg w8, .ss false B8 128 9000000] (.agg w8) := fun _ _ _ hw hvs => .inr (press5_calls hw hvs)
def s_press5 : List (Nat × List T × T) := (123, [.agg w8, .ss false B8 128 9000000], .agg w8) :: s_spread5
theorem s_press5_ok : ∀ x ∈ s_press5, SigOk Tryz.prog gtL x.1 x.2.1 x.2.2 := more_ok s_spread5_ok press5_sig
end Ab
end Go.Proofs.YtmonkggoilhngaaGreatDoor

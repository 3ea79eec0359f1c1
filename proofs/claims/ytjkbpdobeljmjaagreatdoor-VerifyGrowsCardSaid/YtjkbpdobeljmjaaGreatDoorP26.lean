/- A part of the proof. Plain; no condition. -/
import Derived.Test.YtjkbpdobeljmjaaGreatDoorP25
import Derived.Test.YtjkbpdobeljmjaaGreatDoorP24
import Derived.Test.YtjkbpdobeljmjaaGreatDoorP11
import Derived.Test.YtjkbpdobeljmjaaGreatDoorP7
import Derived.Test.YtjkbpdobeljmjaaGreatDoorP17
import Derived.Test.YtjkbpdobeljmjaaGreatDoorP23
import Derived.Test.YtjkbpdobeljmjaaGreatDoorP12
import Derived.Deep.CutBlock
/- Signatures: the field and the curve. Plain; no condition. -/
namespace Go.Proofs.YtjkbpdobeljmjaaGreatDoor
open Go.RowKit
namespace Ab
theorem fmul_sig : SigOk Tryz.prog gtL 114 [E4, E4] (E4) := sig_ok (cx_ok s_frest_ok) 300 Tryz.func114 (by kernel_rfl)
def s_fmul : List (Nat × List T × T) := (114, [E4, E4], E4) :: s_frest
theorem s_fmul_ok : ∀ x ∈ s_fmul, SigOk Tryz.prog gtL x.1 x.2.1 x.2.2 := more_ok s_frest_ok fmul_sig
theorem fadd_sig : SigOk Tryz.prog gtL 172 [E4, E4] (E4) := sig_ok (cx_ok s_fmul_ok) 300 Tryz.func172 (by kernel_rfl)
def s_fadd : List (Nat × List T × T) := (172, [E4, E4], E4) :: s_fmul
theorem s_fadd_ok : ∀ x ∈ s_fadd, SigOk Tryz.prog gtL x.1 x.2.1 x.2.2 := more_ok s_fmul_ok fadd_sig
theorem fneg_sig : SigOk Tryz.prog gtL 187 [E4] (E4) := sig_ok (cx_ok s_fadd_ok) 300 Tryz.func187 (by kernel_rfl)
def s_fneg : List (Nat × List T × T) := (187, [E4], E4) :: s_fadd
theorem s_fneg_ok : ∀ x ∈ s_fneg, SigOk Tryz.prog gtL x.1 x.2.1 x.2.2 := more_ok s_fadd_ok fneg_sig
theorem fsub_sig : SigOk Tryz.prog gtL 173 [E4, E4] (E4) := sig_ok (cx_ok s_fneg_ok) 300 Tryz.func173 (by kernel_rfl)
def s_fsub : List (Nat × List T × T) := (173, [E4, E4], E4) :: s_fneg
theorem s_fsub_ok : ∀ x ∈ s_fsub, SigOk Tryz.prog gtL x.1 x.2.1 x.2.2 := more_ok s_fneg_ok fsub_sig
theorem fof_sig : SigOk Tryz.prog gtL 243 [A32] (E4) := sig_ok (cx_ok s_fsub_ok) 300 Tryz.func243 (by kernel_rfl)
def s_fof : List (Nat × List T × T) := (243, [A32], E4) :: s_fsub
theorem s_fof_ok : ∀ x ∈ s_fof, SigOk Tryz.prog gtL x.1 x.2.1 x.2.2 := more_ok s_fsub_ok fof_sig
theorem fbytes_sig : SigOk Tryz.prog gtL 113 [E4] (A32) := sig_ok (cx_ok s_fof_ok) 300 Tryz.func113 (by kernel_rfl)
def s_fbytes : List (Nat × List T × T) := (113, [E4], A32) :: s_fof
theorem s_fbytes_ok : ∀ x ∈ s_fbytes, SigOk Tryz.prog gtL x.1 x.2.1 x.2.2 := more_ok s_fof_ok fbytes_sig
theorem fsmall_sig : SigOk Tryz.prog gtL 240 [TU] (E4) := sig_ok (cx_ok s_fbytes_ok) 300 Tryz.func240 (by kernel_rfl)
def s_fsmall : List (Nat × List T × T) := (240, [TU], E4) :: s_fbytes
theorem s_fsmall_ok : ∀ x ∈ s_fsmall, SigOk Tryz.prog gtL x.1 x.2.1 x.2.2 := more_ok s_fbytes_ok fsmall_sig
theorem fpow_sig : SigOk Tryz.prog gtL 175 [E4, .agg w4] (E4) := sig_ok (cx_ok s_fsmall_ok) 300 Tryz.func175 (by kernel_rfl)
def s_fpow : List (Nat × List T × T) := (175, [E4, .agg w4], E4) :: s_fsmall
theorem s_fpow_ok : ∀ x ∈ s_fpow, SigOk Tryz.prog gtL x.1 x.2.1 x.2.2 := more_ok s_fsmall_ok fpow_sig
theorem finv_sig : SigOk Tryz.prog gtL 112 [E4] (E4) := sig_ok (cx_ok s_fpow_ok) 300 Tryz.func112 (by kernel_rfl)
def s_finv : List (Nat × List T × T) := (112, [E4], E4) :: s_fpow
theorem s_finv_ok : ∀ x ∈ s_finv, SigOk Tryz.prog gtL x.1 x.2.1 x.2.2 := more_ok s_fpow_ok finv_sig
theorem fsame_sig : SigOk Tryz.prog gtL 245 [E4, E4] (.bool) := sig_ok (cx_ok s_finv_ok) 300 Tryz.func245 (by kernel_rfl)
def s_fsame : List (Nat × List T × T) := (245, [E4, E4], .bool) :: s_finv
theorem s_fsame_ok : ∀ x ∈ s_fsame, SigOk Tryz.prog gtL x.1 x.2.1 x.2.2 := more_ok s_finv_ok fsame_sig
theorem fodd_sig : SigOk Tryz.prog gtL 115 [E4] (.bool) := sig_ok (cx_ok s_fsame_ok) 300 Tryz.func115 (by kernel_rfl)
def s_fodd : List (Nat × List T × T) := (115, [E4], .bool) :: s_fsame
theorem s_fodd_ok : ∀ x ∈ s_fodd, SigOk Tryz.prog gtL x.1 x.2.1 x.2.2 := more_ok s_fsame_ok fodd_sig
theorem froot_sig : SigOk Tryz.prog gtL 244 [E4, E4] (.t2 E4 .bool) := sig_ok (cx_ok s_fodd_ok) 300 Tryz.func244 (by kernel_rfl)
def s_froot : List (Nat × List T × T) := (244, [E4, E4], .t2 E4 .bool) :: s_fodd
theorem s_froot_ok : ∀ x ∈ s_froot, SigOk Tryz.prog gtL x.1 x.2.1 x.2.2 := more_ok s_fodd_ok froot_sig
theorem eone_sig : SigOk Tryz.prog gtL 171 [] (E4) := sig_ok (cx_ok s_froot_ok) 300 Tryz.func171 (by kernel_rfl)
def s_eone : List (Nat × List T × T) := (171, [], E4) :: s_froot
theorem s_eone_ok : ∀ x ∈ s_eone, SigOk Tryz.prog gtL x.1 x.2.1 x.2.2 := more_ok s_froot_ok eone_sig
theorem pwhole_sig : SigOk Tryz.prog gtL 108 [P16] (P16) := sig_ok (cx_ok s_eone_ok) 300 Tryz.func108 (by kernel_rfl)
def s_pwhole : List (Nat × List T × T) := (108, [P16], P16) :: s_eone
theorem s_pwhole_ok : ∀ x ∈ s_pwhole, SigOk Tryz.prog gtL x.1 x.2.1 x.2.2 := more_ok s_eone_ok pwhole_sig
theorem pof_sig : SigOk Tryz.prog gtL 107 [E4, E4] (P16) := sig_ok (cx_ok s_pwhole_ok) 300 Tryz.func107 (by kernel_rfl)
def s_pof : List (Nat × List T × T) := (107, [E4, E4], P16) :: s_pwhole
theorem s_pof_ok : ∀ x ∈ s_pof, SigOk Tryz.prog gtL x.1 x.2.1 x.2.2 := more_ok s_pwhole_ok pof_sig
theorem pbase_sig : SigOk Tryz.prog gtL 62 [] (P16) := sig_ok (cx_ok s_pof_ok) 300 Tryz.func62 (by kernel_rfl)
def s_pbase : List (Nat × List T × T) := (62, [], P16) :: s_pof
theorem s_pbase_ok : ∀ x ∈ s_pbase, SigOk Tryz.prog gtL x.1 x.2.1 x.2.2 := more_ok s_pof_ok pbase_sig
theorem padd_sig : SigOk Tryz.prog gtL 110 [P16, P16] (P16) := sig_ok (cx_ok s_pbase_ok) 300 Tryz.func110 (by kernel_rfl)
def s_padd : List (Nat × List T × T) := (110, [P16, P16], P16) :: s_pbase
theorem s_padd_ok : ∀ x ∈ s_padd, SigOk Tryz.prog gtL x.1 x.2.1 x.2.2 := more_ok s_pbase_ok padd_sig
theorem ptwice_sig : SigOk Tryz.prog gtL 109 [P16] (P16) := sig_ok (cx_ok s_padd_ok) 300 Tryz.func109 (by kernel_rfl)
def s_ptwice : List (Nat × List T × T) := (109, [P16], P16) :: s_padd
theorem s_ptwice_ok : ∀ x ∈ s_ptwice, SigOk Tryz.prog gtL x.1 x.2.1 x.2.2 := more_ok s_padd_ok ptwice_sig
theorem pneg_sig : SigOk Tryz.prog gtL 128 [P16] (P16) := sig_ok (cx_ok s_ptwice_ok) 300 Tryz.func128 (by kernel_rfl)
def s_pneg : List (Nat × List T × T) := (128, [P16], P16) :: s_ptwice
theorem s_pneg_ok : ∀ x ∈ s_pneg, SigOk Tryz.prog gtL x.1 x.2.1 x.2.2 := more_ok s_ptwice_ok pneg_sig
theorem ptimes_sig : SigOk Tryz.prog gtL 63 [P16, A32] (P16) := sig_ok (cx_ok s_pneg_ok) 300 Tryz.func63 (by kernel_rfl)
def s_ptimes : List (Nat × List T × T) := (63, [P16, A32], P16) :: s_pneg
theorem s_ptimes_ok : ∀ x ∈ s_ptimes, SigOk Tryz.prog gtL x.1 x.2.1 x.2.2 := more_ok s_pneg_ok ptimes_sig
theorem pdecode_sig : SigOk Tryz.prog gtL 181 [A32] (.t2 P16 TI64) := sig_ok (cx_ok s_ptimes_ok) 300 Tryz.func181 (by kernel_rfl)
def s_pdecode : List (Nat × List T × T) := (181, [A32], .t2 P16 TI64) :: s_ptimes
theorem s_pdecode_ok : ∀ x ∈ s_pdecode, SigOk Tryz.prog gtL x.1 x.2.1 x.2.2 := more_ok s_ptimes_ok pdecode_sig
theorem pencode_sig : SigOk Tryz.prog gtL 65 [P16] (A32) := sig_ok (cx_ok s_pdecode_ok) 300 Tryz.func65 (by kernel_rfl)
def s_pencode : List (Nat × List T × T) := (65, [P16], A32) :: s_pdecode
theorem s_pencode_ok : ∀ x ∈ s_pencode, SigOk Tryz.prog gtL x.1 x.2.1 x.2.2 := more_ok s_pdecode_ok pencode_sig
end Ab
end Go.Proofs.YtjkbpdobeljmjaaGreatDoor

/- Signatures: numbers, and sha5's blocks. Plain; no condition. -/
namespace Go.Proofs.YtjkbpdobeljmjaaGreatDoor
open Go.RowKit
namespace Ab
theorem nsub_sig : SigOk Tryz.prog gtL 118 [E4, E4] (.t2 E4 TC) := sig_ok (cx_ok s_pencode_ok) 300 Tryz.func118 (by kernel_rfl)
def s_nsub : List (Nat × List T × T) := (118, [E4, E4], .t2 E4 TC) :: s_pencode
theorem s_nsub_ok : ∀ x ∈ s_nsub, SigOk Tryz.prog gtL x.1 x.2.1 x.2.2 := more_ok s_pencode_ok nsub_sig
theorem nless_sig : SigOk Tryz.prog gtL 117 [E4, E4] (.bool) := sig_ok (cx_ok s_nsub_ok) 300 Tryz.func117 (by kernel_rfl)
def s_nless : List (Nat × List T × T) := (117, [E4, E4], .bool) :: s_nsub
theorem s_nless_ok : ∀ x ∈ s_nless, SigOk Tryz.prog gtL x.1 x.2.1 x.2.2 := more_ok s_nsub_ok nless_sig
theorem ntwice_sig : SigOk Tryz.prog gtL 174 [E4, TU] (E4) := sig_ok (cx_ok s_nless_ok) 300 Tryz.func174 (by kernel_rfl)
def s_ntwice : List (Nat × List T × T) := (174, [E4, TU], E4) :: s_nless
theorem s_ntwice_ok : ∀ x ∈ s_ntwice, SigOk Tryz.prog gtL x.1 x.2.1 x.2.2 := more_ok s_nless_ok ntwice_sig
theorem ncanon_sig : SigOk Tryz.prog gtL 180 [A32] (.t2 E4 .bool) := sig_ok (cx_ok s_ntwice_ok) 300 Tryz.func180 (by kernel_rfl)
def s_ncanon : List (Nat × List T × T) := (180, [A32], .t2 E4 .bool) :: s_ntwice
theorem s_ncanon_ok : ∀ x ∈ s_ncanon, SigOk Tryz.prog gtL x.1 x.2.1 x.2.2 := more_ok s_ntwice_ok ncanon_sig
theorem fold4_sig : SigOk Tryz.prog gtL 111 [.ss false U 4 4] (E4) := sig_ok (cx_ok s_ncanon_ok) 600 Tryz.func111 (by kernel_rfl)
def s_fold4 : List (Nat × List T × T) := (111, [.ss false U 4 4], E4) :: s_ncanon
theorem s_fold4_ok : ∀ x ∈ s_fold4, SigOk Tryz.prog gtL x.1 x.2.1 x.2.2 := more_ok s_ncanon_ok fold4_sig
theorem fold8_sig : SigOk Tryz.prog gtL 111 [.ss false U 8 8] (E4) := sig_ok (cx_ok s_fold4_ok) 600 Tryz.func111 (by kernel_rfl)
def s_fold8 : List (Nat × List T × T) := (111, [.ss false U 8 8], E4) :: s_fold4
theorem s_fold8_ok : ∀ x ∈ s_fold8, SigOk Tryz.prog gtL x.1 x.2.1 x.2.2 := more_ok s_fold4_ok fold8_sig
theorem sof64_sig : SigOk Tryz.prog gtL 68 [.ss false B8 64 64] (E4) := sig_ok (cx_ok s_fold8_ok) 600 Tryz.func68 (by kernel_rfl)
def s_sof64 : List (Nat × List T × T) := (68, [.ss false B8 64 64], E4) :: s_fold8
theorem s_sof64_ok : ∀ x ∈ s_sof64, SigOk Tryz.prog gtL x.1 x.2.1 x.2.2 := more_ok s_fold8_ok sof64_sig
theorem nbytes_sig : SigOk Tryz.prog gtL 64 [E4] (A32) := sig_ok (cx_ok s_sof64_ok) 300 Tryz.func64 (by kernel_rfl)
def s_nbytes : List (Nat × List T × T) := (64, [E4], A32) :: s_sof64
theorem s_nbytes_ok : ∀ x ∈ s_nbytes, SigOk Tryz.prog gtL x.1 x.2.1 x.2.2 := more_ok s_sof64_ok nbytes_sig
theorem rot64_sig : SigOk Tryz.prog gtL 264 [TU, TI64] (TU) := sig_ok (cx_ok s_nbytes_ok) 300 Tryz.func264 (by kernel_rfl)
def s_rot64 : List (Nat × List T × T) := (264, [TU, TI64], TU) :: s_nbytes
theorem s_rot64_ok : ∀ x ∈ s_rot64, SigOk Tryz.prog gtL x.1 x.2.1 x.2.2 := more_ok s_nbytes_ok rot64_sig
theorem turn5_sig : SigOk Tryz.prog gtL 239 [TU, TI64] (TU) := sig_ok (cx_ok s_rot64_ok) 300 Tryz.func239 (by kernel_rfl)
def s_turn5 : List (Nat × List T × T) := (239, [TU, TI64], TU) :: s_rot64
theorem s_turn5_ok : ∀ x ∈ s_turn5, SigOk Tryz.prog gtL x.1 x.2.1 x.2.2 := more_ok s_rot64_ok turn5_sig
theorem spread5_sig : SigOk Tryz.prog gtL 238 [.ss false B8 128 9000000] (.agg w80) := sig_ok (cx_ok s_turn5_ok) 300 Tryz.func238 (by kernel_rfl)
def s_spread5 : List (Nat × List T × T) := (238, [.ss false B8 128 9000000], .agg w80) :: s_turn5
theorem s_spread5_ok : ∀ x ∈ s_spread5, SigOk Tryz.prog gtL x.1 x.2.1 x.2.2 := more_ok s_turn5_ok spread5_sig
theorem press5_calls {σ : S} {w : World} {vs : Array Value} (hw : WT gtL σ w) (hvs : VTs σ vs.toList [.agg w8, .ss false B8 128 9000000]) : (callFunc 170 vs).run Tryz.prog w = .ok (.enter 170 vs) w ∧ Calls Tryz.prog 170 vs w fun e w' => ∃ v, e = .returned v ∧ Ans gtL σ w v w' (.agg w8) := sig_calls (cx_ok s_spread5_ok) 300 Tryz.func170 (by kernel_rfl) hw hvs
theorem press5_sig : SigOk Tryz.prog gtL 170 [.agg w8, .ss false B8 128 9000000] (.agg w8) := fun _ _ _ hw hvs => .inr (press5_calls hw hvs)
def s_press5 : List (Nat × List T × T) := (170, [.agg w8, .ss false B8 128 9000000], .agg w8) :: s_spread5
theorem s_press5_ok : ∀ x ∈ s_press5, SigOk Tryz.prog gtL x.1 x.2.1 x.2.2 := more_ok s_spread5_ok press5_sig
end Ab
end Go.Proofs.YtjkbpdobeljmjaaGreatDoor

/- The reader's take. Conditions: none beyond what the reckoning asks. -/
namespace Go.Proofs.YtjkbpdobeljmjaaGreatDoor
set_option linter.unusedVariables false
set_option linter.unusedSimpArgs false
open Go.RowKit Bits Mem
namespace Ab
theorem infoU8A : (Tryz.prog.info? 5).map (·.size) = some 1 := by kernel_rfl
end Ab
end Go.Proofs.YtjkbpdobeljmjaaGreatDoor

/- The reader's texts. Conditions: none beyond what the reckoning asks. -/
namespace Go.Proofs.YtjkbpdobeljmjaaGreatDoor
set_option linter.unusedVariables false
set_option linter.unusedSimpArgs false
open Go.RowKit Bits Mem
namespace Ab
theorem VTs.mk2 {σ : S} {u v : Value} {τ ρ : T} (h : VT σ u τ) (h' : VT σ v ρ) : VTs σ #[u, v].toList [τ, ρ] := ⟨rfl, fun i τ' hi => by
  match i with
  | 0 => cases hi; exact ⟨u, rfl, h⟩
  | 1 => cases hi; exact ⟨v, rfl, h'⟩
  | i + 2 => simp at hi⟩
theorem sl_low (pb po len cap n : Nat) (hnl : n ≤ len) (l1 : len ≤ cap) : ∃ o', (∀ w : World, (Instr.sliceAt 31 (.slice (some ⟨pb, po, none⟩) len cap) (some (.int .i64 (n : Int))) none none).run Tryz.prog w = .ok (.slice (some ⟨pb, o', none⟩) (len - n) (cap - n)) w) ∧ (n < len → o' = po + n) := by
  obtain ⟨i8, hi8, hs8⟩ : ∃ i8, Tryz.prog.info? 5 = some i8 ∧ i8.size = 1 := by
    obtain ⟨i0, h1, h2⟩ := Option.map_eq_some_iff.1 infoU8A
    exact ⟨i0, h1, h2⟩
  have w0 : World := (default : World)
  obtain ⟨o', h1, h2⟩ := Rp.run_low2 (P := Tryz.prog) 31 5 i8 Tryz.underlying31 hi8 pb po len cap n hnl l1 w0
  have hw0 : ∀ w' : World, (Instr.slice 31 (.slice (some ⟨pb, po, none⟩) len cap) (some (.int .i64 (n : Int))) none none).run Tryz.prog w' = .ok (.slice (some ⟨pb, o', none⟩) (len - n) (cap - n)) w' := fun w' => by
    have hcl : cap = n ∨ cap ≠ n := by omega
    rcases hcl with hcl | hcl
    · simp [Instr.slice, Instr.sliceBounds, Instr.sliceBound, asIntOf, Sem.run_bind, run_underlying Tryz.underlying31, sizeOf, typeInfo, hi8, hcl, show n ≤ len from hnl] at h1 ⊢
      exact h1
    · simp [Instr.slice, Instr.sliceBounds, Instr.sliceBound, asIntOf, Sem.run_bind, run_underlying Tryz.underlying31, sizeOf, typeInfo, hi8, hcl, show n ≤ len from hnl] at h1 ⊢
      exact h1
  exact ⟨o', fun w' => by simp [Instr.sliceAt, Sem.run_bind, run_underlying Tryz.underlying31, hw0], fun h => by rw [h2 h, hs8, Nat.mul_one]⟩
end Ab
end Go.Proofs.YtjkbpdobeljmjaaGreatDoor

/- A reckoning with kinds: pieces of code, and loops whose rounds are told one by one. Plain; no condition. -/
namespace Go.Proofs.YtjkbpdobeljmjaaGreatDoor
open Go.RowKit
namespace Ab
noncomputable def subTr (t t' : Tr) : Bool :=
  Tr.rec (motive := fun _ => Tr → Bool) (fun _ => true) (fun v' _ _ il ir t => (match v' with
    | none => true
    | some τ' => match t.val with
      | none => false
      | some τ => sub τ τ') && il t.left && ir t.right) t' t
theorem subTr_nd (t : Tr) (v' : Option T) (l r : Tr) : subTr t (.nd v' l r) = ((match v' with
    | none => true
    | some τ' => match t.val with
      | none => false
      | some τ => sub τ τ') && subTr t.left l && subTr t.right r) := rfl
theorem subTr_ok : ∀ (k : Nat) (t t' : Tr) (n : Nat) (τ' : T), subTr t t' = true → t'.get k n = some τ' → ∃ τ, t.get k n = some τ ∧ sub τ τ' = true
  | 0, _, _, _, _, _, h => by cases h
  | k + 1, t, t', n, τ', hs, h => by
    cases t' with
    | nil => rw [Tr.get_nil] at h; cases h
    | nd v' l r =>
      rw [subTr_nd] at hs
      simp only [Bool.and_eq_true] at hs
      rw [Tr.get_succ] at h ⊢
      rcases way n with rfl | ⟨h1, h2, _⟩ | ⟨h1, h2, _⟩
      · have h : v' = some τ' := h
        show ∃ τ, t.val = some τ ∧ _
        rw [h] at hs
        cases hv : t.val with
        | none => simp [hv] at hs
        | some τ => simp only [hv] at hs; exact ⟨τ, rfl, hs.1.1⟩
      · simp only [h1, h2, Tr.left] at h ⊢; exact subTr_ok k _ _ _ _ hs.1.2 h
      · simp only [h1, h2, Tr.right] at h ⊢; exact subTr_ok k _ _ _ _ hs.2 h
noncomputable def subE (Γ Γ' : Env) : Bool := Nat.beq Γ.length Γ'.length && subTr Γ.tr Γ'.tr
theorem subE_ok {σ : S} {a : Act} {Γ Γ' : Env} (h : subE Γ Γ' = true) (ht : Typed σ a Γ) : Typed σ a Γ' := by
  unfold subE at h
  rw [Bool.and_eq_true] at h
  have hl := Nat.eq_of_beq_eq_true h.1
  refine ⟨by rw [← hl]; exact ht.1, ht.2.1, fun t τ' hτ => ?_⟩
  have hlt := Env.lt hτ
  rw [Env.at_ok hlt, ← hl] at hτ
  obtain ⟨τ, h1, h2⟩ := subTr_ok _ _ _ _ _ h.2 hτ
  exact sub_ok _ _ (ht.2.2 t τ (by rw [Env.at_ok (by rw [hl]; exact hlt)]; exact h1)) h2
noncomputable def le1 (x y : Option Env) : Bool := match x with
  | none => true
  | some Γ' => match y with
    | some Γ1 => subE Γ' Γ1
    | none => false
noncomputable def chkR (r : Option Res) (nrm ret : Option Env) (ext : List (Nat × Env)) : Bool :=
  match r with
  | none => false
  | some r => le1 r.nrm nrm && le1 r.ret ret && r.ext.all fun x => ext.any fun y => Nat.beq x.1 y.1 && subE x.2 y.2
theorem le1_ok {σ : S} {a : Act} {x y : Option Env} (h : le1 x y = true) (hx : has σ a x) : has σ a y := by
  obtain ⟨Γ, rfl, ht⟩ := hx
  cases y with
  | none => cases h
  | some Γ1 => exact ⟨Γ1, rfl, subE_ok h ht⟩
def Does (c : Ctx) (x : Code) (Γ : Env) (nrm ret : Option Env) (ext : List (Nat × Env)) : Prop :=
  ∀ (σ : S) (a : Act) (w : World) (Q : Exit → Act → World → Prop), WT c.gt σ w → Typed σ a Γ →
    (∀ σ' a' w', has σ' a' nrm → Go1 σ σ' w w' → WT c.gt σ' w' → Q .normal a' w') →
    (∀ σ' a' w', has σ' a' ret → Go1 σ σ' w w' → WT c.gt σ' w' → Q .ret a' w') →
    (∀ σ' a' w' i, hasE σ' a' i ext → Go1 σ σ' w w' → WT c.gt σ' w' → Q (.exit i) a' w') → x.wp c.P Q a w
theorem does {c : Ctx} (hc : c.Ok) (N : Nat) {x : Code} {Γ : Env} {nrm ret : Option Env} {ext : List (Nat × Env)} (h : chkR (absK c N x Γ) nrm ret ext = true) : Does c x Γ nrm ret ext := by
  intro σ a w Q hw ht hn hrt he
  cases hr : absK c N x Γ with
  | none => rw [hr] at h; cases h
  | some r =>
    rw [hr] at h
    simp only [chkR, Bool.and_eq_true] at h
    obtain ⟨⟨h1, h2⟩, h3⟩ := h
    refine absK_ok hc N x Γ r σ a w Q hr hw ht (fun e a' w' ho => ?_)
    obtain ⟨σ', g1, g2, g3⟩ := ho
    cases e with
    | normal => exact hn σ' a' w' (le1_ok h1 g3) g1 g2
    | ret => exact hrt σ' a' w' (le1_ok h2 g3) g1 g2
    | exit i =>
      obtain ⟨Γ', hm, ht'⟩ := g3
      have := List.all_eq_true.1 h3 _ hm
      obtain ⟨⟨j, Δ⟩, hm2, hh⟩ := List.any_eq_true.1 this
      simp only [Bool.and_eq_true] at hh
      have hij : i = j := Nat.eq_of_beq_eq_true hh.1
      subst hij
      exact he σ' a' w' i ⟨Δ, hm2, subE_ok hh.2 ht'⟩ g1 g2
    | _ => exact g3.elim
noncomputable def envOf (n : Nat) (l : List (Nat × T)) : Env := l.foldr (fun x Γ => Γ.set x.1 x.2) ⟨n, .nil⟩
end Ab
end Go.Proofs.YtjkbpdobeljmjaaGreatDoor

/- A proof, taken from a reader. Conditions: none beyond what the reckoning asks. -/
namespace Go.Proofs.YtjkbpdobeljmjaaGreatDoor
set_option linter.unusedVariables false
set_option linter.unusedSimpArgs false
open Go.RowKit Bits Mem
namespace Ab
theorem envOf_at {n : Nat} : ∀ {l : List (Nat × T)} {t : Nat} {τ : T}, (envOf n l).at t = some τ → (t, τ) ∈ l
  | [], t, τ, h => by
    have hlt := Env.lt h
    unfold envOf at h hlt
    rw [Env.at_ok hlt] at h
    simp only [List.foldr_nil, Tr.get_nil] at h
    cases h
  | (s, ρ) :: l, t, τ, h => by
    have hlt := Env.lt h
    have e : envOf n ((s, ρ) :: l) = (envOf n l).set s ρ := rfl
    rw [e] at h hlt
    by_cases hs : s = t
    · subst hs
      rw [Env.set_self (by exact hlt)] at h
      cases h
      exact List.mem_cons_self ..
    · rw [Env.set_ne hs] at h
      exact List.mem_cons_of_mem _ (envOf_at h)
theorem envOf_length (n : Nat) : ∀ (l : List (Nat × T)), (envOf n l).length = n
  | [] => rfl
  | (s, ρ) :: l => envOf_length n l
theorem typed_of {σ : S} {a : Act} {n : Nat} {l : List (Nat × T)} (hn : n ≤ a.tmps.size) (hd : a.defers = []) (h : ∀ x ∈ l, VT σ (a.tmps.getD x.1 undef) x.2) : Typed σ a (envOf n l) :=
  ⟨by rw [envOf_length]; exact hn, hd, fun t τ ht => h (t, τ) (envOf_at ht)⟩
end Ab
end Go.Proofs.YtjkbpdobeljmjaaGreatDoor


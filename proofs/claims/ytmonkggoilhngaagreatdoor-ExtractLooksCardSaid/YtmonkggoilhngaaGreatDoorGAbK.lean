/- Signatures: the reader's. Plain; no condition. -/
import Derived.Test.YtmonkggoilhngaaGreatDoorGAbI
import Derived.Test.YtmonkggoilhngaaGreatDoorGCodT
import Derived.Test.YtmonkggoilhngaaGreatDoorGAbC
namespace Go.Proofs.YtmonkggoilhngaaGreatDoor
open Go.RowKit
namespace Ab
abbrev PR0 : T := .ptr true (lay 0) 0
abbrev PR1 : T := .ptr true (lay 1) 0
theorem clone_sig : SigOk Tryz.prog gtL 22 [.sl 1] (.sl 1) := sig_ok (cx_ok s_press5_ok) 10 Tryz.func22 (by kernel_rfl)
def s_clone : List (Nat × List T × T) := (22, [.sl 1], .sl 1) :: s_press5
theorem s_clone_ok : ∀ x ∈ s_clone, SigOk Tryz.prog gtL x.1 x.2.1 x.2.2 := more_ok s_press5_ok clone_sig
theorem cread_sig : SigOk Tryz.prog gtL 31 [.sl 1] (PR0) := sig_ok (cx_ok s_clone_ok) 10 Tryz.func31 (by kernel_rfl)
def s_cread : List (Nat × List T × T) := (31, [.sl 1], PR0) :: s_clone
theorem s_cread_ok : ∀ x ∈ s_cread, SigOk Tryz.prog gtL x.1 x.2.1 x.2.2 := more_ok s_clone_ok cread_sig
theorem wread_sig : SigOk Tryz.prog gtL 13 [.sl 1] (PR1) := sig_ok (cx_ok s_cread_ok) 10 Tryz.func13 (by kernel_rfl)
def s_wread : List (Nat × List T × T) := (13, [.sl 1], PR1) :: s_cread
theorem s_wread_ok : ∀ x ∈ s_wread, SigOk Tryz.prog gtL x.1 x.2.1 x.2.2 := more_ok s_cread_ok wread_sig
theorem take1_sig : SigOk Tryz.prog gtL 32 [PR0, .int .i64 1 1] (.or .nl (.ss false (.int .u8) 1 1)) := take_sig 1 (by decide)
def s_take1 : List (Nat × List T × T) := (32, [PR0, .int .i64 1 1], .or .nl (.ss false (.int .u8) 1 1)) :: s_wread
theorem s_take1_ok : ∀ x ∈ s_take1, SigOk Tryz.prog gtL x.1 x.2.1 x.2.2 := more_ok s_wread_ok take1_sig
theorem take8_sig : SigOk Tryz.prog gtL 32 [PR0, .int .i64 8 8] (.or .nl (.ss false (.int .u8) 8 8)) := take_sig 8 (by decide)
def s_take8 : List (Nat × List T × T) := (32, [PR0, .int .i64 8 8], .or .nl (.ss false (.int .u8) 8 8)) :: s_take1
theorem s_take8_ok : ∀ x ∈ s_take8, SigOk Tryz.prog gtL x.1 x.2.1 x.2.2 := more_ok s_take1_ok take8_sig
theorem take32_sig : SigOk Tryz.prog gtL 32 [PR0, .int .i64 32 32] (.or .nl (.ss false (.int .u8) 32 32)) := take_sig 32 (by decide)
def s_take32 : List (Nat × List T × T) := (32, [PR0, .int .i64 32 32], .or .nl (.ss false (.int .u8) 32 32)) :: s_take8
theorem s_take32_ok : ∀ x ∈ s_take32, SigOk Tryz.prog gtL x.1 x.2.1 x.2.2 := more_ok s_take8_ok take32_sig
theorem rbyte_sig : SigOk Tryz.prog gtL 14 [PR0] (.int .i64 0 255) := sig_ok (cx_ok s_take32_ok) 10 Tryz.func14 (by kernel_rfl)
def s_rbyte : List (Nat × List T × T) := (14, [PR0], .int .i64 0 255) :: s_take32
theorem s_rbyte_ok : ∀ x ∈ s_rbyte, SigOk Tryz.prog gtL x.1 x.2.1 x.2.2 := more_ok s_take32_ok rbyte_sig
theorem rflag_sig : SigOk Tryz.prog gtL 64 [PR0] (.bool) := sig_ok (cx_ok s_rbyte_ok) 10 Tryz.func64 (by kernel_rfl)
def s_rflag : List (Nat × List T × T) := (64, [PR0], .bool) :: s_rbyte
theorem s_rflag_ok : ∀ x ∈ s_rflag, SigOk Tryz.prog gtL x.1 x.2.1 x.2.2 := more_ok s_rbyte_ok rflag_sig
theorem rnum_calls {σ : S} {w : World} {vs : Array Value} (hw : WT gtL σ w) (hvs : VTs σ vs.toList [PR0]) : (callFunc 33 vs).run Tryz.prog w = .ok (.enter 33 vs) w ∧ Calls Tryz.prog 33 vs w fun e w' => ∃ v, e = .returned v ∧ Ans gtL σ w v w' (TI64) := sig_calls (cx_ok s_rflag_ok) 10 Tryz.func33 (by kernel_rfl) hw hvs
theorem rnum_sig : SigOk Tryz.prog gtL 33 [PR0] (TI64) := fun _ _ _ hw hvs => .inr (rnum_calls hw hvs)
def s_rnum : List (Nat × List T × T) := (33, [PR0], TI64) :: s_rflag
theorem s_rnum_ok : ∀ x ∈ s_rnum, SigOk Tryz.prog gtL x.1 x.2.1 x.2.2 := more_ok s_rflag_ok rnum_sig
theorem rsum_calls {σ : S} {w : World} {vs : Array Value} (hw : WT gtL σ w) (hvs : VTs σ vs.toList [PR0]) : (callFunc 35 vs).run Tryz.prog w = .ok (.enter 35 vs) w ∧ Calls Tryz.prog 35 vs w fun e w' => ∃ v, e = .returned v ∧ Ans gtL σ w v w' (A32) := sig_calls (cx_ok s_rnum_ok) 10 Tryz.func35 (by kernel_rfl) hw hvs
theorem rsum_sig : SigOk Tryz.prog gtL 35 [PR0] (A32) := fun _ _ _ hw hvs => .inr (rsum_calls hw hvs)
def s_rsum : List (Nat × List T × T) := (35, [PR0], A32) :: s_rnum
theorem s_rsum_ok : ∀ x ∈ s_rsum, SigOk Tryz.prog gtL x.1 x.2.1 x.2.2 := more_ok s_rnum_ok rsum_sig
theorem rend_sig : SigOk Tryz.prog gtL 42 [PR0] (TI64) := sig_ok (cx_ok s_rsum_ok) 10 Tryz.func42 (by kernel_rfl)
def s_rend : List (Nat × List T × T) := (42, [PR0], TI64) :: s_rsum
theorem s_rend_ok : ∀ x ∈ s_rend, SigOk Tryz.prog gtL x.1 x.2.1 x.2.2 := more_ok s_rsum_ok rend_sig
theorem rtext_sig : SigOk Tryz.prog gtL 40 [PR0, .int .i64 0 65535] (.sl 1) := text_sig
def s_rtext : List (Nat × List T × T) := (40, [PR0, .int .i64 0 65535], .sl 1) :: s_rend
theorem s_rtext_ok : ∀ x ∈ s_rtext, SigOk Tryz.prog gtL x.1 x.2.1 x.2.2 := more_ok s_rend_ok rtext_sig
theorem raw64_sig : SigOk Tryz.prog gtL 63 [PR1, .int .i64 64 64] (.ss false (.int .u8) 64 64) := raw_sig 64 (by decide) (by decide)
def s_raw64 : List (Nat × List T × T) := (63, [PR1, .int .i64 64 64], .ss false (.int .u8) 64 64) :: s_rtext
theorem s_raw64_ok : ∀ x ∈ s_raw64, SigOk Tryz.prog gtL x.1 x.2.1 x.2.2 := more_ok s_rtext_ok raw64_sig
theorem raw80_sig : SigOk Tryz.prog gtL 63 [PR1, .int .i64 80 80] (.ss false (.int .u8) 80 80) := raw_sig 80 (by decide) (by decide)
def s_raw80 : List (Nat × List T × T) := (63, [PR1, .int .i64 80 80], .ss false (.int .u8) 80 80) :: s_raw64
theorem s_raw80_ok : ∀ x ∈ s_raw80, SigOk Tryz.prog gtL x.1 x.2.1 x.2.2 := more_ok s_raw64_ok raw80_sig
theorem count256_sig : SigOk Tryz.prog gtL 66 [PR1, .int .i64 256 256] (.int .i64 0 256) := sig_ok (cx_ok s_raw80_ok) 10 Tryz.func66 (by kernel_rfl)
def s_count256 : List (Nat × List T × T) := (66, [PR1, .int .i64 256 256], .int .i64 0 256) :: s_raw80
theorem s_count256_ok : ∀ x ∈ s_count256, SigOk Tryz.prog gtL x.1 x.2.1 x.2.2 := more_ok s_raw80_ok count256_sig
theorem count1024_sig : SigOk Tryz.prog gtL 66 [PR1, .int .i64 1024 1024] (.int .i64 0 1024) := sig_ok (cx_ok s_count256_ok) 10 Tryz.func66 (by kernel_rfl)
def s_count1024 : List (Nat × List T × T) := (66, [PR1, .int .i64 1024 1024], .int .i64 0 1024) :: s_count256
theorem s_count1024_ok : ∀ x ∈ s_count1024, SigOk Tryz.prog gtL x.1 x.2.1 x.2.2 := more_ok s_count256_ok count1024_sig
theorem rsums_sig : SigOk Tryz.prog gtL 36 [PR1] (.ow (List.replicate 32 B8) 0 256) := sig_ok (cx_ok s_count1024_ok) 300 Tryz.func36 (by kernel_rfl)
def s_rsums : List (Nat × List T × T) := (36, [PR1], .ow (List.replicate 32 B8) 0 256) :: s_count1024
theorem s_rsums_ok : ∀ x ∈ s_rsums, SigOk Tryz.prog gtL x.1 x.2.1 x.2.2 := more_ok s_count1024_ok rsums_sig
end Ab
end Go.Proofs.YtmonkggoilhngaaGreatDoor
/- A reckoning with kinds: pieces of code, and loops whose rounds are told one by one. Plain; no condition. -/
namespace Go.Proofs.YtmonkggoilhngaaGreatDoor
open Go.RowKit
namespace Ab
noncomputable def subTr (t t' : Tr) : Bool :=
  Tr.rec (motive := fun _ => Tr → Bool) (fun _ => true) (fun v' _ _ il ir t => (match v' with
    | none => true
    | some τ' => match t.val with
      | none => false
      | some τ => sub τ τ') && il t.left && ir t.right) t' t
theorem subTr_nd (t : Tr) (v' : Option T) (l r : Tr) : subTr t (.nd v' l r) = ((match v' with
    | none => true
    | some τ' => match t.val with
      | none => false
      | some τ => sub τ τ') && subTr t.left l && subTr t.right r) := rfl
theorem subTr_ok : ∀ (k : Nat) (t t' : Tr) (n : Nat) (τ' : T), subTr t t' = true → t'.get k n = some τ' → ∃ τ, t.get k n = some τ ∧ sub τ τ' = true
  | 0, _, _, _, _, _, h => by cases h
  | k + 1, t, t', n, τ', hs, h => by
    cases t' with
    | nil => rw [Tr.get_nil] at h; cases h
    | nd v' l r =>
      rw [subTr_nd] at hs
      simp only [Bool.and_eq_true] at hs
      rw [Tr.get_succ] at h ⊢
      rcases way n with rfl | ⟨h1, h2, _⟩ | ⟨h1, h2, _⟩
      · have h : v' = some τ' := h
        show ∃ τ, t.val = some τ ∧ _
        rw [h] at hs
        cases hv : t.val with
        | none => simp [hv] at hs
        | some τ => simp only [hv] at hs; exact ⟨τ, rfl, hs.1.1⟩
      · simp only [h1, h2, Tr.left] at h ⊢; exact subTr_ok k _ _ _ _ hs.1.2 h
      · simp only [h1, h2, Tr.right] at h ⊢; exact subTr_ok k _ _ _ _ hs.2 h
noncomputable def subE (Γ Γ' : Env) : Bool := Nat.beq Γ.length Γ'.length && subTr Γ.tr Γ'.tr
theorem subE_ok {σ : S} {a : Act} {Γ Γ' : Env} (h : subE Γ Γ' = true) (ht : Typed σ a Γ) : Typed σ a Γ' := by
  unfold subE at h
  rw [Bool.and_eq_true] at h
  have hl := Nat.eq_of_beq_eq_true h.1
  refine ⟨by rw [← hl]; exact ht.1, ht.2.1, fun t τ' hτ => ?_⟩
  have hlt := Env.lt hτ
  rw [Env.at_ok hlt, ← hl] at hτ
  obtain ⟨τ, h1, h2⟩ := subTr_ok _ _ _ _ _ h.2 hτ
  exact sub_ok _ _ (ht.2.2 t τ (by rw [Env.at_ok (by rw [hl]; exact hlt)]; exact h1)) h2
noncomputable def le1 (x y : Option Env) : Bool := match x with
  | none => true
  | some Γ' => match y with
    | some Γ1 => subE Γ' Γ1
    | none => false
noncomputable def chkR (r : Option Res) (nrm ret : Option Env) (ext : List (Nat × Env)) : Bool :=
  match r with
  | none => false
  | some r => le1 r.nrm nrm && le1 r.ret ret && r.ext.all fun x => ext.any fun y => Nat.beq x.1 y.1 && subE x.2 y.2
theorem le1_ok {σ : S} {a : Act} {x y : Option Env} (h : le1 x y = true) (hx : has σ a x) : has σ a y := by
  obtain ⟨Γ, rfl, ht⟩ := hx
  cases y with
  | none => cases h
  | some Γ1 => exact ⟨Γ1, rfl, subE_ok h ht⟩
def Does (c : Ctx) (x : Code) (Γ : Env) (nrm ret : Option Env) (ext : List (Nat × Env)) : Prop :=
  ∀ (σ : S) (a : Act) (w : World) (Q : Exit → Act → World → Prop), WT c.gt σ w → Typed σ a Γ →
    (∀ σ' a' w', has σ' a' nrm → Go1 σ σ' w w' → WT c.gt σ' w' → Q .normal a' w') →
    (∀ σ' a' w', has σ' a' ret → Go1 σ σ' w w' → WT c.gt σ' w' → Q .ret a' w') →
    (∀ σ' a' w' i, hasE σ' a' i ext → Go1 σ σ' w w' → WT c.gt σ' w' → Q (.exit i) a' w') → x.wp c.P Q a w
theorem does {c : Ctx} (hc : c.Ok) (N : Nat) {x : Code} {Γ : Env} {nrm ret : Option Env} {ext : List (Nat × Env)} (h : chkR (absK c N x Γ) nrm ret ext = true) : Does c x Γ nrm ret ext := by
  intro σ a w Q hw ht hn hrt he
  cases hr : absK c N x Γ with
  | none => rw [hr] at h; cases h
  | some r =>
    rw [hr] at h
    simp only [chkR, Bool.and_eq_true] at h
    obtain ⟨⟨h1, h2⟩, h3⟩ := h
    refine absK_ok hc N x Γ r σ a w Q hr hw ht (fun e a' w' ho => ?_)
    obtain ⟨σ', g1, g2, g3⟩ := ho
    cases e with
    | normal => exact hn σ' a' w' (le1_ok h1 g3) g1 g2
    | ret => exact hrt σ' a' w' (le1_ok h2 g3) g1 g2
    | exit i =>
      obtain ⟨Γ', hm, ht'⟩ := g3
      have := List.all_eq_true.1 h3 _ hm
      obtain ⟨⟨j, Δ⟩, hm2, hh⟩ := List.any_eq_true.1 this
      simp only [Bool.and_eq_true] at hh
      have hij : i = j := Nat.eq_of_beq_eq_true hh.1
      subst hij
      exact he σ' a' w' i ⟨Δ, hm2, subE_ok hh.2 ht'⟩ g1 g2
    | _ => exact g3.elim
theorem Does.seq {c : Ctx} {x y : Code} {Γ Γ1 : Env} {nrm ret : Option Env} {ext : List (Nat × Env)} (h : Does c x Γ (some Γ1) ret ext) (h' : Does c y Γ1 nrm ret ext) : Does c (.seq x y) Γ nrm ret ext := by
  intro σ a w Q hw ht hn hrt he
  refine wp_seq (h σ a w _ hw ht (fun σ' a' w' hh g1 g2 => ?_) hrt he)
  obtain ⟨_, e, ht'⟩ := hh
  cases e
  exact h' σ' a' w' Q g2 ht' (fun σ2 a2 w2 k1 k2 k3 => hn σ2 a2 w2 k1 (g1.trans k2) k3) (fun σ2 a2 w2 k1 k2 k3 => hrt σ2 a2 w2 k1 (g1.trans k2) k3) (fun σ2 a2 w2 i k1 k2 k3 => he σ2 a2 w2 i k1 (g1.trans k2) k3)
theorem Does.block {c : Ctx} {i : Nat} {x : Code} {Γ Γ1 : Env} {ret : Option Env} (h : Does c x Γ none ret [(i, Γ1)]) : Does c (.block i x) Γ (some Γ1) ret [] := by
  intro σ a w Q hw ht hn hrt _
  refine wp_block (h σ a w _ hw ht (fun σ' a' w' hh _ _ => by obtain ⟨_, e, _⟩ := hh; cases e) hrt (fun σ' a' w' j hh g1 g2 => ?_))
  obtain ⟨Γ', hm, ht'⟩ := hh
  rw [List.mem_singleton] at hm
  cases hm
  show (if i = i then Q .normal a' w' else Q (.exit i) a' w')
  rw [if_pos rfl]
  exact hn σ' a' w' ⟨Γ1, rfl, ht'⟩ g1 g2
theorem Does.loop {c : Ctx} {x : Code} (n : Nat) (Γ : Nat → Env) {ret : Option Env} (ext : List (Nat × Env)) (h : ∀ k, k < n → Does c x (Γ k) (some (Γ (k + 1))) ret ext) (hn : Does c x (Γ n) none ret ext) : Does c (.loop x) (Γ 0) none ret ext := by
  intro σ a w Q hw ht _ hrt he
  refine wp_loop_rounds (n + 1) ?_
  have key : ∀ (m k : Nat) (σ' : S) (a : Act) (w' : World), k + m = n → Go1 σ σ' w w' → WT c.gt σ' w' → Typed σ' a (Γ k) → Code.rounds c.P x Q (m + 1) a w' := by
    intro m
    induction m with
    | zero =>
      intro k σ' a w' hk g1 g2 ht
      obtain rfl : k = n := by omega
      rw [rounds_succ]
      exact hn σ' a w' _ g2 ht (fun _ _ _ h _ _ => by obtain ⟨_, e, _⟩ := h; cases e) (fun σ2 a2 w2 hm k1 k2 => hrt σ2 a2 w2 hm (g1.trans k1) k2) (fun σ2 a2 w2 i hm k1 k2 => he σ2 a2 w2 i hm (g1.trans k1) k2)
    | succ m ih =>
      intro k σ' a w' hk g1 g2 ht
      rw [rounds_succ]
      refine h k (by omega) σ' a w' _ g2 ht (fun σ2 a2 w2 hh k1 k2 => ?_) (fun σ2 a2 w2 hm k1 k2 => hrt σ2 a2 w2 hm (g1.trans k1) k2) (fun σ2 a2 w2 i hm k1 k2 => he σ2 a2 w2 i hm (g1.trans k1) k2)
      obtain ⟨_, e, k3⟩ := hh
      cases e
      exact ih (k + 1) σ2 a2 w2 (by omega) (g1.trans k1) k2 k3
  exact key n 0 σ a w (by omega) (Go1.refl _ _) hw ht
theorem all_ok {p : Nat → Bool} (off n : Nat) (h : ((List.range n).all fun k => p (off + k)) = true) : ∀ k, off ≤ k → k < off + n → p k = true := by
  intro k h1 h2
  have := List.all_eq_true.1 h (k - off) (List.mem_range.2 (by omega))
  rwa [show off + (k - off) = k by omega] at this
noncomputable def endB (c : Ctx) (fn : Func) (τ : T) (o : Option Env) : Bool := match o with
  | some Γ => match resTs c Γ fn.results.toList with
    | some ρ => sub ρ τ
    | none => false
  | none => true
theorem calls_of_does {c : Ctx} (hc : c.Ok) {f : FuncId} {fn : Func} {x : Code} (hf : c.P.funcs[f]? = some fn) (hb : fn.body = some x) (hname : (fn.name == "runtime.NumGoroutine") = false) {τs : List T} {τ : T} {nrm ret : Option Env}
    (h : Does c x (env0 fn.ntmps 0 τs) nrm ret []) (hn : endB c fn τ nrm = true)
    (hr : endB c fn τ ret = true) {σ : S} {w : World} {vs : Array Value} (hw : WT c.gt σ w) (hvs : VTs σ vs.toList τs) :
    (callFunc f vs).run c.P w = .ok (.enter f vs) w ∧ Calls c.P f vs w fun e w' => ∃ v, e = .returned v ∧ Ans c.gt σ w v w' τ := by
  have h1 : fn.name ≠ "runtime.NumGoroutine" := by simpa using hname
  refine ⟨by simp [callFunc, hf, h1, hb, mark], ?_⟩
  have hlen := hvs.1
  simp only [Array.length_toList] at hlen
  refine calls_of_wp hf hb ?_
  have fin : ∀ (o : Option Env) (σ' : S) (a : Act) (w' : World), endB c fn τ o = true → has σ' a o → Go1 σ σ' w w' → WT c.gt σ' w' →
      a.defers = [] ∧ ∃ v, (results fn a.tmps).run c.P w' = .ok v w' ∧ (∃ v', Ending.returned v = Ending.returned v' ∧ Ans c.gt σ w v' w' τ) := by
    rintro o σ' a w' hk ⟨Γ, rfl, ht⟩ g1 g2
    unfold endB at hk
    cases hρ : resTs c Γ fn.results.toList with
    | none => simp [hρ] at hk
    | some ρ =>
      simp only [hρ] at hk
      obtain ⟨v, hv1, hv2⟩ := resTs_ok hc g2 ht fn hρ
      exact ⟨ht.2.1, v, hv1, v, rfl, σ', g1, g2, sub_ok _ _ hv2 hk⟩
  refine h σ _ w _ hw ?_ (fun σ' a w' hh g1 g2 => fin nrm σ' a w' hn hh g1 g2) (fun σ' a w' hh g1 g2 => fin ret σ' a w' hr hh g1 g2) (fun σ' a w' i hh _ _ => ?_)
  · refine ⟨by rw [env0_length]; simp; omega, rfl, fun t τ' ht => ?_⟩
    obtain ⟨_, ht⟩ := env0_at _ _ _ _ _ ht
    rw [Nat.sub_zero] at ht
    obtain ⟨v, hv1, hv2⟩ := hvs.2 t τ' ht
    have hlt : t < vs.size := by
      have := (List.getElem?_eq_some_iff.1 ht).1
      omega
    have : (vs ++ Array.replicate (fn.ntmps - vs.size) undef).getD t undef = v := by
      rw [Array.getD_eq_getD_getElem?, Array.getElem?_append_left hlt]
      have : vs[t]? = some v := by simpa using hv1
      rw [this]
      rfl
    rw [this]
    exact hv2
  · obtain ⟨_, hm, _⟩ := hh
    cases hm
def loopsOf : Code → List Code
  | .seq x y => loopsOf x ++ loopsOf y
  | .block _ x => loopsOf x
  | .cond _ x y => loopsOf x ++ loopsOf y
  | .loop x => x :: loopsOf x
  | _ => []
def loopAt (fn : Func) (i : Nat) : Code := ((loopsOf (fn.body.getD .skip))[i]?).getD .skip
noncomputable def envOf (n : Nat) (l : List (Nat × T)) : Env := l.foldr (fun x Γ => Γ.set x.1 x.2) ⟨n, .nil⟩
end Ab
end Go.Proofs.YtmonkggoilhngaaGreatDoor

/- A proof, taken from a reader. Conditions: none beyond what the reckoning asks. -/
import Derived.Test.YtmonkggoilhngaaGreatDoorGAbK
import Derived.Test.YtmonkggoilhngaaGreatDoorGFew
import Derived.Deep.CutBlock
namespace Go.Proofs.YtmonkggoilhngaaGreatDoor
set_option linter.unusedVariables false
set_option linter.unusedSimpArgs false
open Go.RowKit Bits Mem
namespace Ab
theorem envOf_at {n : Nat} : ∀ {l : List (Nat × T)} {t : Nat} {τ : T}, (envOf n l).at t = some τ → (t, τ) ∈ l
  | [], t, τ, h => by
    have hlt := Env.lt h
    unfold envOf at h hlt
    rw [Env.at_ok hlt] at h
    simp only [List.foldr_nil, Tr.get_nil] at h
    cases h
  | (s, ρ) :: l, t, τ, h => by
    have hlt := Env.lt h
    have e : envOf n ((s, ρ) :: l) = (envOf n l).set s ρ := rfl
    rw [e] at h hlt
    by_cases hs : s = t
    · subst hs
      rw [Env.set_self (by exact hlt)] at h
      cases h
      exact List.mem_cons_self ..
    · rw [Env.set_ne hs] at h
      exact List.mem_cons_of_mem _ (envOf_at h)
theorem envOf_length (n : Nat) : ∀ (l : List (Nat × T)), (envOf n l).length = n
  | [] => rfl
  | (s, ρ) :: l => envOf_length n l
theorem typed_of {σ : S} {a : Act} {n : Nat} {l : List (Nat × T)} (hn : n ≤ a.tmps.size) (hd : a.defers = []) (h : ∀ x ∈ l, VT σ (a.tmps.getD x.1 undef) x.2) : Typed σ a (envOf n l) :=
  ⟨by rw [envOf_length]; exact hn, hd, fun t τ ht => h (t, τ) (envOf_at ht)⟩
structure Tk (σ0 : S) (w0 : World) (b : Nat) (k : Nat) (σ : S) (w : World) : Prop where
  go : Go1 σ0 σ w0 w
  wt : WT gtL σ w
  rd : σ b = some (true, lay 0)
  p2 : w.heap[w0.heap.size]? = some (.cells Tryz.zeroCells32 32 (0, 0))
  n2 : σ w0.heap.size = none
  p4 : ∃ C, w.heap[w0.heap.size + 1]? = some (.cells C 32 (0, 0)) ∧ CT σ C.toList (proofK k)
  n4 : σ (w0.heap.size + 1) = none
theorem lt_of_row {w : World} {k : Nat} {o : Obj} (h : w.heap[k]? = some o) : k < w.heap.size := (Array.getElem?_eq_some_iff.1 h).1
theorem Tk.next {σ0 σ σ' : S} {w0 w w' : World} {b k : Nat} (h : Tk σ0 w0 b k σ w) (g : Go1 σ σ' w w') (hw : WT gtL σ' w') : Tk σ0 w0 b k σ' w' := by
  obtain ⟨C, h4, hC⟩ := h.p4
  have l2 := lt_of_row h.p2
  have l4 := lt_of_row h.p4.choose_spec.1
  have hle := g.le h.wt
  exact ⟨h.go.trans g, hw, hle _ _ h.rd, (g.kept _ l2 (fun l e => by rw [h.n2] at e; cases e)).trans h.p2, (g.same _ l2).trans h.n2, ⟨C, (g.kept _ l4 (fun l e => by rw [h.n4] at e; cases e)).trans h4, hC.mono hle⟩, (g.same _ l4).trans h.n4⟩
theorem WT.none {σ : S} {w : World} (h : WT gtL σ w) {b : Nat} (hb : w.heap.size ≤ b) : σ b = none := by
  cases e : σ b with
  | none => rfl
  | some x => have := h.lt e; omega
theorem zero_proof : CT nil0 (Tryz.zeroCells32).toList (proofK 0) := ksB_ok (by kernel_rfl)
theorem Tk.start {σ : S} {w : World} {b : Nat} (hw : WT gtL σ w) (hb : σ b = some (true, lay 0)) : Tk σ w b 0 σ ((w.alloc (.cells Tryz.zeroCells32 32)).alloc (.cells Tryz.zeroCells32 32)) := by
  have hbl : Below w.heap.size w.drew ((w.alloc (.cells Tryz.zeroCells32 32)).alloc (.cells Tryz.zeroCells32 32)) := by
    have h := ((Below.refl w.heap.size w).alloc (Nat.le_refl _) (.cells Tryz.zeroCells32 32)).alloc (by rw [World.size_alloc]; omega) (.cells Tryz.zeroCells32 32)
    exact ⟨h.os, h.tape, h.output, h.size, h.block⟩
  refine ⟨Go1.of_below hbl, WT.below hw hbl, hb, ?_, hw.none (Nat.le_refl _), ⟨_, ?_, zero_proof.mono (fun b x hb => by simp [nil0] at hb)⟩, hw.none (Nat.le_succ _)⟩
  · rw [Rg.heap_alloc_past _ _ _ (by rw [World.size_alloc]; omega)]
    exact heap_alloc_new w _
  · have := heap_alloc_new (w.alloc (.cells Tryz.zeroCells32 32)) (.cells Tryz.zeroCells32 32)
    rw [World.size_alloc] at this
    exact this
section
variable {P : Program} {Q : Exit → Act → World → Prop} {l : List Oper} {i : Nat} {p : Rp.Plan} {a : Act} {w w' : World} {o : Oper} {v : Value}
theorem tF_value (ho : Rp.nth l i = some o) (hg : o.guard = none) (hr : (execOp a.eval o).run P w = .ok (.value v) w') (h : Rp.wpTree P l Q p (a.put o.dst v) w') : Rp.wpTree P l Q (.f i p) a w := by
  refine Rp.tF ho fun K hK => wpList_plain hg fun K' hK' => ?_
  unfold Oper.wp
  rw [hr]
  exact hK' _ _ (hK _ _ h)
theorem tF_skip (ho : Rp.nth l i = some o) (hg : o.guard = none) (hr : (execOp a.eval o).run P w = .ok .skip w') (h : Rp.wpTree P l Q p (a.put o.dst undef) w') : Rp.wpTree P l Q (.f i p) a w := by
  refine Rp.tF ho fun K hK => wpList_plain hg fun K' hK' => ?_
  unfold Oper.wp
  rw [hr]
  exact hK' _ _ (hK _ _ h)
theorem run_vP {s : Sem Value} (h : s.run P w = .ok v w') : ((do pure (.value (← s)) : Sem Next)).run P w = .ok (.value v) w' := by
  rw [Sem.run_bind, h]
  rfl
theorem call_run {dst : Option Tmp} {f : FuncId} {args : Array Operand} {ts : Array TypeId} {type : TypeId} {pos : String} {after : Array Edge} {guard : Option (Nat × Bool)} :
    (execOp a.eval { dst := dst, op := .call { callee := .value (.func f), args := args, argTypes := ts }, type := type, pos := pos, after := after, guard := guard }).run P w = (callFunc f (args.map a.eval)).run P w := by
  simp [execOp, resolve, Deferred.ofValue, Act.eval, invoke]
theorem tF_calls (ho : Rp.nth l i = some o) (hg : o.guard = none) {f : FuncId} {vs : Array Value} (hr : (execOp a.eval o).run P w = .ok (.enter f vs) w) (h : Calls P f vs w fun e w' => ∃ v, e = .returned v ∧ Rp.wpTree P l Q p (a.put o.dst v) w') : Rp.wpTree P l Q (.f i p) a w := by
  refine Rp.tF ho fun K hK => wpList_plain hg fun K' hK' => ?_
  unfold Oper.wp
  rw [hr]
  refine Calls.mono h (fun e w' hh => ?_)
  obtain ⟨v, rfl, hh⟩ := hh
  exact hK' _ _ (hK _ _ hh)
end
abbrev κ32 : List K := List.replicate 32 (.int .u8)
set_option maxRecDepth 100000 in
theorem row_one {σ : S} {x : World} {C : Array Value} (hw : WT gtL σ x) (hC : CT σ C.toList b32) : ∃ v x', (Instr.buildSlice 27 1 #[(0, .agg C)]).run Tryz.prog x = .ok v x' ∧ Ans gtL σ x v x' (.ow κ32 1 1) := by
  have ha : ∀ y ∈ (#[((0 : Nat), Operand.tmp 0)] : Array (Nat × Operand)).toList, VT σ ((⟨#[.agg C], []⟩ : Act).eval y.2) (ty (cx sg0).gt (envOf 1 [(0, A32)]) y.2) := fun y hy => by
    simp only [List.mem_singleton] at hy
    subst hy
    exact ⟨C, rfl, hC⟩
  have : Yl (cx sg0) σ x (Instr.buildSlice 27 1 ((#[((0 : Nat), Operand.tmp 0)] : Array (Nat × Operand)).map fun p => (p.1, (⟨#[.agg C], []⟩ : Act).eval p.2))) (.ow κ32 1 1) := bs_ok (c := cx sg0) (a := ⟨#[.agg C], []⟩) (Γ := envOf 1 [(0, A32)]) (cx_ok sg0_ok) hw (t := 27) (i := { size := 1, row := false, zero := [.ow 32 256], sl := some 32, slz := b32 }) (by kernel_rfl) (es := 32) rfl (n := 1) (ps := #[((0 : Nat), Operand.tmp 0)]) ha (qs := [(0, b32)]) (by kernel_rfl) (by kernel_rfl)
  obtain ⟨v, x', hr, hA⟩ := this
  replace hr : (Instr.buildSlice 27 1 ((#[((0 : Nat), Operand.tmp 0)] : Array (Nat × Operand)).map fun p => (p.1, (⟨#[.agg C], []⟩ : Act).eval p.2))).run Tryz.prog x = .ok v x' := hr
  exact ⟨v, x', by simpa [Act.eval] using hr, hA⟩
theorem row_more {σ : S} {x : World} {v u : Value} {n : Nat} (hw : WT gtL σ x) (hv : OW σ v κ32 0 n) (hu : OW σ u κ32 1 1) (hn : n ≤ 1000) : ∃ v' x', (Builtin.append_ #[27, 27] 27 #[v, u]).run Tryz.prog x = .ok v' x' ∧ Ans gtL σ x v' x' (.ow κ32 1 (n + 1)) := by
  have hi : (cx sg0).t 27 = some { size := 1, row := false, zero := [.ow 32 256], sl := some 32, slz := b32 } := by kernel_rfl
  have h1 : (some 32 : Option Nat) = some κ32.length := by rw [List.length_replicate]
  have h2 : 0 < κ32.length := by rw [List.length_replicate]; decide
  have h3 : kle b32 κ32 = true := by kernel_rfl
  generalize κ32 = κ at hv hu h1 h2 h3 ⊢
  generalize b32 = bb at hi h3
  have := append_ok (c := cx sg0) (cx_ok sg0_ok) hw (ty := 27) hi h1 h2 h3 hv (.inl hu) (by omega)
  rwa [Nat.zero_add] at this
theorem Tk.cell {σ0 σ : S} {w0 w : World} {b k : Nat} (h : Tk σ0 w0 b k σ w) : ∃ v, w.cell? ⟨w0.heap.size + 1, 0, none⟩ = some v ∧ OW σ v κ32 0 k := by
  obtain ⟨C, h4, hC⟩ := h.p4
  obtain ⟨v, e, hv⟩ := hC.2 0 (.ow 32 k) rfl
  exact ⟨v, (cell_of_row _ _ _ _ _ _ h4).trans (by simpa using e), hv⟩
theorem Tk.store {σ0 σ : S} {w0 w : World} {b k : Nat} (h : Tk σ0 w0 b k σ w) {v : Value} (hv : OW σ v κ32 0 (k + 1)) : ∃ w', (Instr.storeAt 27 (.pointer (some ⟨w0.heap.size + 1, 0, none⟩)) v).run Tryz.prog w = .ok () w' ∧ Tk σ0 w0 b (k + 1) σ w' := by
  obtain ⟨C, h4, hC⟩ := h.p4
  have hone : v.oneCell' = true := hv.one
  have hcs := cells_single hone
  have hlen : C.toList.length = 66 := hC.1
  have hst := run_storeCells_at Tryz.prog (w0.heap.size + 1) 0 32 v.cells.toList 0 C w h4 (by rw [hcs]; simp at hlen ⊢; omega) (by rw [hcs]; simpa using hone)
  obtain ⟨X, hX⟩ : ∃ X : Array Value, X = (C.toList.take 0 ++ v.cells.toList ++ C.toList.drop (0 + v.cells.toList.length)).toArray := ⟨_, rfl⟩
  have hXl : X.toList = v :: C.toList.drop 1 := by rw [hX, hcs]; simp
  have hCX : CT σ X.toList (proofK (k + 1)) := by
    rw [hXl]
    refine ⟨by simp [hlen]; rfl, fun j κ hj => ?_⟩
    cases j with
    | zero => cases hj; exact ⟨v, rfl, hv⟩
    | succ j =>
      obtain ⟨u, h1, h2⟩ := hC.2 (j + 1) κ hj
      exact ⟨u, by rw [List.getElem?_cons_succ, List.getElem?_drop, Nat.add_comm 1 j]; exact h1, h2⟩
  have ho : ∀ j, j ≠ w0.heap.size + 1 → (w.setRow (w0.heap.size + 1) X).heap[j]? = w.heap[j]? := fun j hj => by
    unfold World.setRow
    exact (Array.getElem?_modify ..).trans (if_neg (Ne.symm hj))
  refine ⟨w.setRow (w0.heap.size + 1) X, ?_, ?_⟩
  · obtain ⟨it, _, _, hit, hsz, _⟩ := ((cx_ok sg0_ok).t (show (cx sg0).t 27 = some { size := 1, row := false, zero := [.ow 32 256], sl := some 32, slz := b32 } by kernel_rfl)).info
    have hit' : Tryz.prog.info? 27 = some it := hit
    simp only [Instr.storeAt, Instr.sureAddr, Sem.run_bind, Sem.run_pure, Result.andThen_ok, storeVar, sizeOf, run_typeInfo w hit']
    rw [if_neg (by rw [hsz]; have := congrArg List.length hcs; simp at this ⊢; omega)]
    simp only [Nat.add_zero] at hst
    rw [hX]
    simpa using hst
  · refine ⟨⟨h.go.same, h.go.os, h.go.tape, h.go.output, by simpa [World.setRow] using h.go.size, fun j hj hn => (ho j (by omega)).trans (h.go.kept j hj hn)⟩, ⟨h.wt.tab, fun g D hg => ?_, fun j m l hj => ?_⟩, h.rd, (ho _ (by omega)).trans h.p2, h.n2, ⟨X, setRow_heap w _ C X _ (0, 0) h4, hCX⟩, h.n4⟩
    · obtain ⟨⟨l', hl⟩, t2, f2, hh⟩ := h.wt.fx g D hg
      exact ⟨⟨l', hl⟩, t2, f2, (ho g (fun e => by rw [e, h.n4] at hl; cases hl)).trans hh⟩
    · obtain ⟨D, t2, f2, h1, h2, h3⟩ := h.wt.blk j m l hj
      exact ⟨D, t2, f2, (ho j (fun e => by rw [e, h.n4] at hj; cases hj)).trans h1, h2, h3⟩
def sh (σ : S) (h : Nat) : S := fun j => if j = h then some (true, proofK 256) else if j = h + 1 then some (true, proofK 256) else σ j
theorem Tk.shut {σ0 σ : S} {w0 w : World} {b k : Nat} (h : Tk σ0 w0 b k σ w) (hk : k ≤ 256) : Go1 σ0 (sh σ w0.heap.size) w0 w ∧ WT gtL (sh σ w0.heap.size) w := by
  have hle : Le σ (sh σ w0.heap.size) := fun j x hj => by
    unfold sh
    rw [if_neg (fun e => by rw [e, h.n2] at hj; cases hj), if_neg (fun e => by rw [e, h.n4] at hj; cases hj)]
    exact hj
  obtain ⟨C, h4, hC⟩ := h.p4
  refine ⟨⟨fun j hj => ?_, h.go.os, h.go.tape, h.go.output, h.go.size, h.go.kept⟩, ⟨fun g l hg => hle _ _ (h.wt.tab g l hg), fun g D hg => ?_, fun j m l hj => ?_⟩⟩
  · unfold sh
    rw [if_neg (by omega), if_neg (by omega)]
    exact h.go.same j hj
  · obtain ⟨⟨l', hl⟩, hh⟩ := h.wt.fx g D hg
    exact ⟨⟨l', hle _ _ hl⟩, hh⟩
  · unfold sh at hj
    split at hj
    · rename_i e
      subst e
      cases hj
      exact ⟨_, _, _, h.p2, fun _ => rfl, (kle_ok (by kernel_rfl) zero_proof).mono (fun b x hb => by simp [nil0] at hb)⟩
    · split at hj
      · rename_i e
        subst e
        cases hj
        refine ⟨_, _, _, h4, fun _ => rfl, ?_⟩
        refine ⟨hC.1, fun i κ hi => ?_⟩
        cases i with
        | zero =>
          cases hi
          obtain ⟨v, e1, e2⟩ := hC.2 0 (.ow 32 k) rfl
          exact ⟨v, e1, OW.mono hle (OW.wide e2 (Nat.le_refl _) hk)⟩
        | succ i =>
          obtain ⟨v, e1, e2⟩ := hC.2 (i + 1) κ hi
          exact ⟨v, e1, e2.mono hle⟩
      · obtain ⟨D, t2, f2, h1, h2, h3⟩ := h.wt.blk j m l hj
        exact ⟨D, t2, f2, h1, h2, h3.mono hle⟩
noncomputable def tkE : Env := envOf 49 [(0, PR0), (2, .ptr true (proofK 256) 0), (3, TI64), (4, .ptr true (proofK 256) 0)]
noncomputable def tkR : Env := envOf 49 [(2, .ptr true (proofK 256) 0), (3, TI64)]
theorem err_ok {x : Code} (h : chkR (absK (cx s_rsums) 10 x tkE) (some tkR) none [] = true) {σ : S} {w : World} {a : Act} {Q : Exit → Act → World → Prop} (hw : WT gtL σ w) (ht : Typed σ a tkE)
    (hQ : ∀ a' w' σ', Go1 σ σ' w w' → WT gtL σ' w' → Typed σ' a' tkR → Q .normal a' w') : x.wp Tryz.prog Q a w :=
  does (cx_ok s_rsums_ok) 10 h σ a w Q hw ht (fun σ' a' w' hh g1 g2 => by obtain ⟨_, e, h3⟩ := hh; cases e; exact hQ a' w' σ' g1 g2 h3) (fun _ _ _ hh _ _ => by obtain ⟨_, e, _⟩ := hh; cases e) (fun _ _ _ _ hh _ _ => by obtain ⟨_, hm, _⟩ := hh; cases hm)
theorem err2_ok {x : Code} (h : chkR (absK (cx s_rsums) 10 x tkE) (some tkE) none [] = true) {σ : S} {w : World} {a : Act} {Q : Exit → Act → World → Prop} (hw : WT gtL σ w) (ht : Typed σ a tkE)
    (hQ : ∀ a' w' σ', Go1 σ σ' w w' → WT gtL σ' w' → Typed σ' a' tkE → Q .normal a' w') : x.wp Tryz.prog Q a w :=
  does (cx_ok s_rsums_ok) 10 h σ a w Q hw ht (fun σ' a' w' hh g1 g2 => by obtain ⟨_, e, h3⟩ := hh; cases e; exact hQ a' w' σ' g1 g2 h3) (fun _ _ _ hh _ _ => by obtain ⟨_, e, _⟩ := hh; cases e) (fun _ _ _ _ hh _ _ => by obtain ⟨_, hm, _⟩ := hh; cases hm)
theorem tk_end {σ0 σ' : S} {w0 w' : World} {a : Act} (g : Go1 σ0 σ' w0 w') (hw : WT gtL σ' w') (ht : Typed σ' a tkR) :
    a.defers = [] ∧ ∃ v, (results Tryz.f87 a.tmps).run Tryz.prog w' = .ok v w' ∧ (∃ v', Ending.returned v = Ending.returned v' ∧ Ans gtL σ0 w0 v' w' (.t2 (.agg (proofK 256)) TI64)) := by
  obtain ⟨v, hv1, hv2⟩ := resTs_ok (cx_ok sg0_ok) hw ht Tryz.f87 (τ := .t2 (.agg (proofK 256)) TI64) (by kernel_rfl)
  exact ⟨ht.2.1, v, hv1, v, rfl, σ', g, hw, hv2⟩
theorem tail_ok {x : Code} (h : chkR (absK (cx s_rsums) 10 x tkE) none (some tkR) [] = true) {σ : S} {w : World} {a : Act} {Q : Exit → Act → World → Prop} (hw : WT gtL σ w) (ht : Typed σ a tkE)
    (hQ : ∀ a' w' σ', Go1 σ σ' w w' → WT gtL σ' w' → Typed σ' a' tkR → Q .ret a' w') : x.wp Tryz.prog Q a w :=
  does (cx_ok s_rsums_ok) 10 h σ a w Q hw ht (fun _ _ _ hh _ _ => by obtain ⟨_, e, _⟩ := hh; cases e) (fun σ' a' w' hh g1 g2 => by obtain ⟨_, e, h3⟩ := hh; cases e; exact hQ a' w' σ' g1 g2 h3) (fun _ _ _ _ hh _ _ => by obtain ⟨_, hm, _⟩ := hh; cases hm)
theorem load27 {x : World} {b off : Nat} {v : Value} (h : x.cell? ⟨b, off, none⟩ = some v) : (Instr.loadAt 27 (.pointer (some ⟨b, off, none⟩))).run Tryz.prog x = .ok v x := by
  simp [Instr.loadAt, Instr.sureAddr, loadVar, isAgg, run_underlying Tryz.underlying27, h]
set_option maxRecDepth 100000 in
set_option maxHeartbeats 4000000 in
theorem ptake_any {σ : S} {w : World} (hw : WT gtL σ w) {b : Nat} (hb : σ b = some (true, lay 0)) :
    Calls Tryz.prog 87 #[.pointer (some ⟨b, 0, none⟩)] w fun e w' => ∃ v, e = .returned v ∧ Ans gtL σ w v w' (.t2 (.agg (proofK 256)) TI64) := by
  have h0 := Tk.start hw hb
  have H0 := Lib.hid h0
  clear hw hb h0
  go_enter Tryz.func87, Tryz.ntmps87
  go_wp2_with fail
  refine (rnum_calls H0.out.wt (VTs.mk1 ⟨b, true, rfl, H0.out.rd, fun _ => rfl⟩)).2.mono ?_
  rintro _ w2 ⟨v, rfl, σ2, g1, g2, n, rfl, n1, n2⟩
  have h2 := H0.out.next g1 g2
  have H2 := Lib.hid h2
  clear h2 g1 g2 H0
  by_cases hn : n < 0 ∨ 256 < n
  · by_cases hn0 : n < 0
    · have hf1 : decide (n < 0) = true := by simpa using hn0
      clear hn
      go_upto_region 4 with fail
      obtain ⟨g5, w5⟩ := (H2.out).shut (show 0 ≤ 256 from by omega)
      refine err_ok (by kernel_rfl) w5 (typed_of (by simp) rfl (fun y hy => ?_)) (fun a' w' σ' j1 j2 j3 => ?_)
      · simp only [List.mem_cons, List.not_mem_nil, or_false] at hy
        rcases hy with rfl | rfl | rfl | rfl
        · exact ⟨b, true, rfl, by unfold sh; rw [if_neg (fun e => by have := H2.out.n2; rw [← e, H2.out.rd] at this; cases this), if_neg (fun e => by have := H2.out.n4; rw [← e, H2.out.rd] at this; cases this)]; exact H2.out.rd, fun _ => rfl⟩
        · exact ⟨_, true, rfl, by unfold sh; rw [if_pos rfl], fun _ => rfl⟩
        · exact ⟨0, rfl, by decide, by decide⟩
        · exact ⟨_, true, rfl, by unfold sh; rw [if_neg (by omega), if_pos rfl], fun _ => rfl⟩
      · go_step
        go_step
        refine wp_ret ?_
        exact tk_end (g5.trans j1) j2 j3
    · have hf1 : decide (n < 0) = false := by simpa using hn0
      have hf2 : decide (256 < n) = true := by simp; omega
      clear hn
      go_upto_region 4 with fail
      obtain ⟨g5, w5⟩ := (H2.out).shut (show 0 ≤ 256 from by omega)
      refine err_ok (by kernel_rfl) w5 (typed_of (by simp) rfl (fun y hy => ?_)) (fun a' w' σ' j1 j2 j3 => ?_)
      · simp only [List.mem_cons, List.not_mem_nil, or_false] at hy
        rcases hy with rfl | rfl | rfl | rfl
        · exact ⟨b, true, rfl, by unfold sh; rw [if_neg (fun e => by have := H2.out.n2; rw [← e, H2.out.rd] at this; cases this), if_neg (fun e => by have := H2.out.n4; rw [← e, H2.out.rd] at this; cases this)]; exact H2.out.rd, fun _ => rfl⟩
        · exact ⟨_, true, rfl, by unfold sh; rw [if_pos rfl], fun _ => rfl⟩
        · exact ⟨0, rfl, by decide, by decide⟩
        · exact ⟨_, true, rfl, by unfold sh; rw [if_neg (by omega), if_pos rfl], fun _ => rfl⟩
      · go_step
        go_step
        refine wp_ret ?_
        exact tk_end (g5.trans j1) j2 j3
  · obtain ⟨m, rfl⟩ := Int.eq_ofNat_of_zero_le (show 0 ≤ n by omega)
    have hm : m ≤ 256 := by omega
    have hf1 : decide ((m : Int) < 0) = false := by simp
    have hf2 : decide ((256 : Int) < (m : Int)) = false := by simp; omega
    clear hn n1 n2
    go_wp2_with fail
    go_loopw [17] (fun kv wr => ∃ (k : Nat) (σk : S), k ≤ m ∧ kv = .int .i64 k ∧ Hid (Tk σ w b k σk wr)) (fun kv _ => m - (intOf kv).toNat)
    case atStart => exact ⟨0, σ2, Nat.zero_le _, rfl, H2⟩
    case round =>
      obtain ⟨k, σk, hk, rfl, HT⟩ := hrel
      clear H2
      by_cases hlt : k < m
      · have hltI : (k : Int) < (m : Int) := by omega
        go_wp2_with fail
        refine Rp.tree [0, 2] (.b 1 (.f 3 (.f 4 (.f 5 (.f 6 (.f 7 .done))))) 3 (.b 1 (.f 4 (.f 5 (.f 6 (.f 7 .done)))) 4 (.f 1 (.f 5 (.f 6 (.f 7 .done)))))) (by kernel_rfl) (by kernel_rfl) ?_
        simp only [Rp.pickN, Rp.nth]
        repeat (refine Rp.tK rfl ?_; intro K hK; apply Exists.intro; refine ⟨?_, ?_⟩; (focus (intro x; go_simp; (first | ((try go_bits); (try go_simp); (try rfl))))); go_simp; refine hK _ ?_; clear hK K)
        refine Rp.tStart ?_
        have HT0 := Lib.hid (HT.out.next ((Go1.refl _ _).drew) HT.out.wt.drew)
        refine Rp.tB ?_ ?_
        ·
          obtain ⟨v0, hc0, hv0⟩ := (HT0.out).cell
          have HV := Lib.hid hv0
          refine tF_value rfl rfl (w' := _) (v := v0) (by
            show ((do pure (.value (← Instr.loadAt 27 (.pointer (some ⟨w.heap.size + 1, 0, none⟩)))) : Sem Next)).run Tryz.prog _ = _
            exact run_vP (load27 hc0)) ?_
          clear hc0 hv0
          refine tF_calls rfl rfl (f := 35) (vs := #[.pointer (some ⟨b, 0, none⟩)]) (by rw [call_run]; simp only [List.map_toArray, List.map_cons, List.map_nil]; exact (rsum_calls (HT0.out).wt (VTs.mk1 ⟨b, true, rfl, (HT0.out).rd, fun _ => rfl⟩)).1) ?_
          refine (rsum_calls (HT0.out).wt (VTs.mk1 ⟨b, true, rfl, (HT0.out).rd, fun _ => rfl⟩)).2.mono ?_
          rintro _ x2 ⟨_, rfl, σ3, g1, g2, C2, rfl, hC2⟩
          refine ⟨_, rfl, ?_⟩
          have HG2 := Lib.hid g1
          have HT2 := Lib.hid ((HT0.out).next g1 g2)
          have HC2 := Lib.hid hC2
          clear g1 g2 hC2
          obtain ⟨v3, x3, hr3, σ4, k1, k2, k3⟩ := row_one HT2.out.wt HC2.out
          refine tF_value (v := v3) (w' := x3) rfl rfl (by simp [execOp, Act.eval, Act.put, hr3]) ?_
          have HG3 := Lib.hid k1
          have HT3 := Lib.hid (HT2.out.next k1 k2)
          have HU := Lib.hid k3
          clear hr3 k1 k2 k3
          have HV3 := Lib.hid ((HV.out.mono (HG2.out.le HT0.out.wt)).mono (HG3.out.le HT2.out.wt))
          obtain ⟨v4, x4, hr4, σ5, j1, j2, j3⟩ := row_more HT3.out.wt HV3.out HU.out (show k ≤ 1000 by omega)
          refine tF_value (v := v4) (w' := x4) rfl rfl (by simp [execOp, resolve, invoke, builtin, Act.eval, Act.put, hr4]) ?_
          have HT4 := Lib.hid (HT3.out.next j1 j2)
          have HW4 := Lib.hid (OW.wide j3 (Nat.zero_le _) (Nat.le_refl _))
          clear hr4 j1 j2 j3
          refine tF_value (v := .pointer (some ⟨w.heap.size + 1, 0, none⟩)) rfl rfl (by rfl) ?_
          obtain ⟨x5, hr5, hT5⟩ := HT4.out.store HW4.out
          refine tF_skip rfl rfl (w' := x5) (by
            show ((do Instr.storeAt 27 (.pointer (some ⟨w.heap.size + 1, 0, none⟩)) v4; pure .skip : Sem Next)).run Tryz.prog _ = _
            rw [Sem.run_bind, hr5]; rfl) ?_
          have HT5 := Lib.hid hT5
          clear hr5 hT5
          refine Rp.tDone ?_
          refine NoPanic.normal ?_
          go_wp2_with fail
          exact ⟨⟨k + 1, σ5, by omega, by go_num, HT5⟩, by simp [intOf]; omega⟩
        ·
          refine tF_calls rfl rfl (f := 35) (vs := #[.pointer (some ⟨b, 0, none⟩)]) (by rw [call_run]; simp only [List.map_toArray, List.map_cons, List.map_nil]; exact (rsum_calls (HT0.out).wt (VTs.mk1 ⟨b, true, rfl, (HT0.out).rd, fun _ => rfl⟩)).1) ?_
          refine (rsum_calls (HT0.out).wt (VTs.mk1 ⟨b, true, rfl, (HT0.out).rd, fun _ => rfl⟩)).2.mono ?_
          rintro _ x2 ⟨_, rfl, σ3, g1, g2, C2, rfl, hC2⟩
          refine ⟨_, rfl, ?_⟩
          have HG2 := Lib.hid g1
          have HT2 := Lib.hid ((HT0.out).next g1 g2)
          have HC2 := Lib.hid hC2
          clear g1 g2 hC2
          refine Rp.tB ?_ ?_
          ·
            obtain ⟨v0, hc0, hv0⟩ := (HT2.out).cell
            have HV := Lib.hid hv0
            refine tF_value rfl rfl (w' := _) (v := v0) (by
              show ((do pure (.value (← Instr.loadAt 27 (.pointer (some ⟨w.heap.size + 1, 0, none⟩)))) : Sem Next)).run Tryz.prog _ = _
              exact run_vP (load27 hc0)) ?_
            clear hc0 hv0
            obtain ⟨v3, x3, hr3, σ4, k1, k2, k3⟩ := row_one HT2.out.wt HC2.out
            refine tF_value (v := v3) (w' := x3) rfl rfl (by simp [execOp, Act.eval, Act.put, hr3]) ?_
            have HG3 := Lib.hid k1
            have HT3 := Lib.hid (HT2.out.next k1 k2)
            have HU := Lib.hid k3
            clear hr3 k1 k2 k3
            have HV3 := Lib.hid (HV.out.mono (HG3.out.le HT2.out.wt))
            obtain ⟨v4, x4, hr4, σ5, j1, j2, j3⟩ := row_more HT3.out.wt HV3.out HU.out (show k ≤ 1000 by omega)
            refine tF_value (v := v4) (w' := x4) rfl rfl (by simp [execOp, resolve, invoke, builtin, Act.eval, Act.put, hr4]) ?_
            have HT4 := Lib.hid (HT3.out.next j1 j2)
            have HW4 := Lib.hid (OW.wide j3 (Nat.zero_le _) (Nat.le_refl _))
            clear hr4 j1 j2 j3
            refine tF_value (v := .pointer (some ⟨w.heap.size + 1, 0, none⟩)) rfl rfl (by rfl) ?_
            obtain ⟨x5, hr5, hT5⟩ := HT4.out.store HW4.out
            refine tF_skip rfl rfl (w' := x5) (by
              show ((do Instr.storeAt 27 (.pointer (some ⟨w.heap.size + 1, 0, none⟩)) v4; pure .skip : Sem Next)).run Tryz.prog _ = _
              rw [Sem.run_bind, hr5]; rfl) ?_
            have HT5 := Lib.hid hT5
            clear hr5 hT5
            refine Rp.tDone ?_
            refine NoPanic.normal ?_
            go_wp2_with fail
            exact ⟨⟨k + 1, σ5, by omega, by go_num, HT5⟩, by simp [intOf]; omega⟩
          ·
            obtain ⟨v3, x3, hr3, σ4, k1, k2, k3⟩ := row_one HT2.out.wt HC2.out
            refine tF_value (v := v3) (w' := x3) rfl rfl (by simp [execOp, Act.eval, Act.put, hr3]) ?_
            have HG3 := Lib.hid k1
            have HT3 := Lib.hid (HT2.out.next k1 k2)
            have HU := Lib.hid k3
            clear hr3 k1 k2 k3
            obtain ⟨v0, hc0, hv0⟩ := (HT3.out).cell
            have HV := Lib.hid hv0
            refine tF_value rfl rfl (w' := _) (v := v0) (by
              show ((do pure (.value (← Instr.loadAt 27 (.pointer (some ⟨w.heap.size + 1, 0, none⟩)))) : Sem Next)).run Tryz.prog _ = _
              exact run_vP (load27 hc0)) ?_
            clear hc0 hv0
            have HV3 := HV
            obtain ⟨v4, x4, hr4, σ5, j1, j2, j3⟩ := row_more HT3.out.wt HV3.out HU.out (show k ≤ 1000 by omega)
            refine tF_value (v := v4) (w' := x4) rfl rfl (by simp [execOp, resolve, invoke, builtin, Act.eval, Act.put, hr4]) ?_
            have HT4 := Lib.hid (HT3.out.next j1 j2)
            have HW4 := Lib.hid (OW.wide j3 (Nat.zero_le _) (Nat.le_refl _))
            clear hr4 j1 j2 j3
            refine tF_value (v := .pointer (some ⟨w.heap.size + 1, 0, none⟩)) rfl rfl (by rfl) ?_
            obtain ⟨x5, hr5, hT5⟩ := HT4.out.store HW4.out
            refine tF_skip rfl rfl (w' := x5) (by
              show ((do Instr.storeAt 27 (.pointer (some ⟨w.heap.size + 1, 0, none⟩)) v4; pure .skip : Sem Next)).run Tryz.prog _ = _
              rw [Sem.run_bind, hr5]; rfl) ?_
            have HT5 := Lib.hid hT5
            clear hr5 hT5
            refine Rp.tDone ?_
            refine NoPanic.normal ?_
            go_wp2_with fail
            exact ⟨⟨k + 1, σ5, by omega, by go_num, HT5⟩, by simp [intOf]; omega⟩
      · have hltI : ¬ (k : Int) < (m : Int) := by omega
        go_upto_region 9 with fail
        obtain ⟨g5, w5⟩ := (HT.out).shut (show k ≤ 256 from by omega)
        refine err2_ok (by kernel_rfl) w5 (typed_of (by simp) rfl (fun y hy => ?_)) (fun a' w' σ' j1 j2 j3 => ?_)
        · simp only [List.mem_cons, List.not_mem_nil, or_false] at hy
          rcases hy with rfl | rfl | rfl | rfl
          · exact ⟨b, true, rfl, by unfold sh; rw [if_neg (fun e => by have := (HT.out).n2; rw [← e, (HT.out).rd] at this; cases this), if_neg (fun e => by have := (HT.out).n4; rw [← e, (HT.out).rd] at this; cases this)]; exact (HT.out).rd, fun _ => rfl⟩
          · exact ⟨_, true, rfl, by unfold sh; rw [if_pos rfl], fun _ => rfl⟩
          · exact ⟨0, rfl, by decide, by decide⟩
          · exact ⟨_, true, rfl, by unfold sh; rw [if_neg (by omega), if_pos rfl], fun _ => rfl⟩
        · go_step
          go_step
          refine err2_ok (by kernel_rfl) j2 j3 (fun a2 w2' σ2' i1 i2 i3 => ?_)
          go_step
          go_step
          refine tail_ok (by kernel_rfl) i2 i3 (fun a4 w4' σ4' l1 l2 l3 => ?_)
          exact tk_end (((g5.trans j1).trans i1).trans l1) l2 l3
theorem ptake_sig : SigOk Tryz.prog gtL 87 [PR0] (.t2 (.agg (proofK 256)) TI64) := by
  intro σ w vs hw hv
  obtain ⟨x, rfl, ⟨b, m, rfl, hb, hm⟩⟩ := hv.one
  obtain rfl := hm rfl
  exact .inr ⟨by simp [callFunc, Tryz.func87, Tryz.f87, mark], ptake_any hw hb⟩
end Ab
end Go.Proofs.YtmonkggoilhngaaGreatDoor

/- A part of the proof. Plain; no condition. -/
import Derived.Test.YtjkbpdobeljmjaaGreatDoorP26
import Derived.Test.YtjkbpdobeljmjaaGreatDoorP27
import Derived.Test.YtjkbpdobeljmjaaGreatDoorP2
/- sha5's Sum: it ends, with 64 bytes. Conditions: none beyond what the reckoning asks. -/
namespace Go.Proofs.YtjkbpdobeljmjaaGreatDoor
open Go.RowKit Bits Mem
namespace Ab
open Sha
def b64 : List K := b32 ++ b32
def z64 : Array Value := (List.replicate 64 (Value.int .u8 0)).toArray
section
variable {P : Program} {Q : Exit → Act → World → Prop} {ops : Array Oper} {a : Act} {w w' : World} {o : Oper} {rest : List Oper} {v : Value}
theorem l_val (hg : o.guard = none) (hr : (execOp a.eval o).run P w = .ok (.value v) w') (h : wpList P ops Q rest (a.put o.dst v) w') : wpList P ops Q (o :: rest) a w := by
  refine wpList_plain hg fun K' hK' => ?_
  unfold Oper.wp
  rw [hr]
  exact hK' _ _ h
end
structure Ty (σ0 : S) (w0 : World) (rb : Nat) (σ : S) (w : World) : Prop where
  go : Go1 σ0 σ w0 w
  wt : WT gtL σ w
  res : σ rb = some (true, b64)
theorem Ty.next {σ0 σ σ' : S} {w0 w w' : World} {rb : Nat} (h : Ty σ0 w0 rb σ w) (g : Go1 σ σ' w w') (hw : WT gtL σ' w') : Ty σ0 w0 rb σ' w' := ⟨h.go.trans g, hw, g.le h.wt _ _ h.res⟩
theorem Ty.start {σ : S} {w : World} (Z : Array Value) (hZ : ksB Z.toList b64 = true) (t : TypeId) (hw : WT gtL σ w) : Ty σ w w.heap.size (more σ w.heap.size b64) (w.alloc (.cells Z t)) := by
  obtain ⟨h1, h2⟩ := Go1.alloc hw Z t b64 ((ksB_ok hZ).mono (fun b x hb => by simp [nil0] at hb))
  exact ⟨h1, h2, by unfold more; rw [if_pos rfl]⟩
theorem part_at {σ : S} {w : World} (hw : WT gtL σ w) {pb np cp : Nat} {lo hi : Nat} (h : OW σ (.slice (some ⟨pb, 0, none⟩) np cp) [.sl 1] lo hi) {i : Nat} (hi' : i < np) : ∃ qa la ca, w.cell? ⟨pb, i, none⟩ = some (.slice qa la ca) ∧ SL σ (.slice qa la ca) 1 := by
  rcases h with ⟨h, _⟩ | ⟨b, len, cap, l, e, h1, h2, h3, h4, hb, h5, h6⟩
  · cases h
  · cases e
    obtain ⟨C, t, f, hh, _, hC⟩ := hw.blk pb true l hb
    have hk := h6 i 0 (.sl 1) (by omega) rfl
    simp only [List.length_singleton, Nat.mul_one, Nat.add_zero] at hk
    obtain ⟨u, e1, e2⟩ := hC.2 i _ hk
    obtain ⟨qa, la, ca, rfl, h7⟩ := e2
    exact ⟨qa, la, ca, (cell_of_row _ _ _ _ _ _ hh).trans (by simpa using e1), ⟨qa, la, ca, rfl, h7⟩⟩
theorem ti8 : (cx sg0).t 31 = some { size := 1, row := false, zero := [.sl 1], sl := some 1, slz := [B8], u8 := true } := by kernel_rfl
theorem app_bytes {σ : S} {x : World} {v u : Value} {lo hi lo' hi' : Nat} {m : Bool} (hw : WT gtL σ x) (hv : OW σ v [B8] lo hi) (hu : SS σ u m B8 lo' hi') (hn : hi + hi' ≤ 100000000) : ∃ v' x', (Builtin.append_ #[31, 31] 31 #[v, u]).run Tryz.prog x = .ok v' x' ∧ Ans gtL σ x v' x' (.ow [B8] (lo + lo') (hi + hi')) :=
  append_ok (c := cx sg0) (κs := [B8]) (cx_ok sg0_ok) hw (ty := 31) ti8 rfl Nat.one_pos (by kernel_rfl) hv (.inr ⟨m, _, rfl, hu⟩) hn
theorem OW.form {σ : S} {v : Value} {κs : List K} {lo hi : Nat} (h : OW σ v κs lo hi) : ∃ q n c, v = .slice q n c ∧ lo ≤ n ∧ n ≤ hi ∧ OW σ v κs n n := by
  rcases h with ⟨rfl, rfl⟩ | ⟨b, len, cap, l, rfl, h1, h2, h3, h4, hb, h5, h6⟩
  · exact ⟨none, 0, 0, rfl, Nat.le_refl _, Nat.zero_le _, .inl ⟨rfl, rfl⟩⟩
  · exact ⟨_, len, cap, rfl, h1, h2, .inr ⟨b, len, cap, l, rfl, Nat.le_refl _, Nat.le_refl _, h3, h4, hb, h5, h6⟩⟩
theorem byte_more {σ : S} {x : World} (hw : WT gtL σ x) (z : Int) (h0 : 0 ≤ z) (h1 : z ≤ 255) : ∃ σ1, Go1 σ σ1 x (x.alloc (.cells #[.int .u8 z] 5)) ∧ WT gtL σ1 (x.alloc (.cells #[.int .u8 z] 5)) ∧ OW σ1 (.slice (some ⟨x.heap.size, 0, none⟩) 1 1) [B8] 1 1 := by
  have hc : CT σ (#[Value.int .u8 z]).toList [B8] := CT_single ⟨z, rfl, h0, h1⟩
  obtain ⟨g1, g2⟩ := Go1.alloc hw _ 5 _ hc
  exact ⟨_, g1, g2, .inr ⟨x.heap.size, 1, 1, [B8], rfl, Nat.le_refl _, Nat.le_refl _, Nat.le_refl _, by decide, by unfold more; rw [if_pos rfl], rfl, fun i j κ h2 h3 => by
    obtain rfl : i = 0 := by omega
    simpa using h3⟩⟩
theorem app_byte {σ : S} {x : World} {q : Option Addr} {n c : Nat} (hw : WT gtL σ x) (hv : OW σ (.slice q n c) [B8] n n) (z : Int) (h0 : 0 ≤ z) (h1 : z ≤ 255) (hn : n ≤ 90000000) : ∃ q' c' x' σ', (Builtin.append_ #[31, 31] 31 #[.slice q n c, .slice (some ⟨x.heap.size, 0, none⟩) 1 1]).run Tryz.prog (x.alloc (.cells #[.int .u8 z] 5)) = .ok (.slice q' (n + 1) c') x' ∧ Go1 σ σ' x x' ∧ WT gtL σ' x' ∧ OW σ' (.slice q' (n + 1) c') [B8] (n + 1) (n + 1) := by
  obtain ⟨σ1, g1, g2, g3⟩ := byte_more hw z h0 h1
  obtain ⟨v', x', hr, σ', k1, k2, k3⟩ := app_bytes g2 (hv.mono (g1.le hw)) g3.ss (by omega)
  obtain ⟨q', n', c', rfl, l1, l2, l3⟩ := OW.form k3
  obtain rfl : n' = n + 1 := by omega
  exact ⟨q', c', x', σ', hr, g1.trans k1, k2, l3⟩
theorem app_noughts {σ : S} {x : World} {q : Option Addr} {n c : Nat} (hw : WT gtL σ x) (hv : OW σ (.slice q n c) [B8] n n) (m : Nat) (hn : n + m ≤ 90000000) : ∃ q' c' x' σ', (Builtin.append_ #[31, 3] 31 #[.slice q n c, .int .i64 (m : Int)]).run Tryz.prog x = .ok (.slice q' (n + m) c') x' ∧ Go1 σ σ' x x' ∧ WT gtL σ' x' ∧ OW σ' (.slice q' (n + m) c') [B8] (n + m) (n + m) := by
  have hsrc : Src Tryz.prog 1 9 (.string (Apm.nul m)) m (List.replicate m (.int .u8 0)) x := by
    have := Src.ofString (P := Tryz.prog) x Tryz.underlying9 (Apm.nul m)
    rwa [Apm.nul_size, Apm.byteCells_nul] at this
  obtain ⟨v', x', hr, σ', k1, k2, k3⟩ := append_src_ok (c := cx sg0) (κs := [B8]) (cx_ok sg0_ok) hw (ty := 31) ti8 rfl Nat.one_pos (by kernel_rfl) hv hsrc (Nat.le_refl m) (Nat.le_refl m) (fun a b κ ha hb => by
    match b with
    | 0 => cases hb; exact ⟨.int .u8 0, by simp [ha], 0, rfl, by decide, by decide⟩
    | b + 1 => simp at hb) (by omega)
  obtain ⟨q', n', c', rfl, l1, l2, l3⟩ := OW.form k3
  obtain rfl : n' = n + m := by omega
  obtain ⟨i0, hi, hz0, hz1, hz2⟩ := info_parts info1
  have hold : ∃ olds : Array Value, (Builtin.firstCells 1 n (.slice q n c)).run Tryz.prog x.drew = .ok olds x.drew := by
    rcases hv with ⟨e, rfl⟩ | ⟨b, len, cap, l, e, h1, h2, h3, h4, hb, h5, h6⟩
    · cases e; exact ⟨_, run_firstCells_none x.drew 1 0 0 0⟩
    · cases e
      obtain ⟨C, t', f, hh, hf, hC⟩ := hw.blk b true l hb
      have hCl := hC.1
      simp only [List.length_singleton, Nat.mul_one] at h5
      refine ⟨_, run_firstCells_some x.drew 1 n ⟨b, 0, none⟩ n c (C.toList.take n) (by rw [List.length_take]; omega) (fun j u hj => ?_)⟩
      rw [al_add, Nat.zero_add, World.cell?_drew, cell_of_row x b _ _ _ _ hh]
      rw [List.getElem?_take] at hj
      split at hj
      · simpa using hj
      · cases hj
  obtain ⟨olds, hold⟩ := hold
  refine ⟨q', c', x', σ', ?_, k1, k2, l3⟩
  rw [Apm.run_app_make (e := 5) (k := .i64) (i := i0) Tryz.underlying31 Tryz.underlying3 Tryz.underlying9 hi hz0 hz1 hz2 q n c m (by omega) olds hold]
  exact hr
theorem l_app_byte {Q : Exit → Act → World → Prop} {ops : Array Oper} {a : Act} {o : Oper} {rest : List Oper} {σ : S} {x : World} {q : Option Addr} {n c : Nat} {z : Int} (hg : o.guard = none) {s y : Operand} (ho : o.op = .call { callee := .builtin .append, args := #[s, y], argTypes := #[31, 31] }) (ht : o.type = 31)
    (hs : a.eval s = .slice q n c) (hy : a.eval y = .slice (some ⟨x.heap.size, 0, none⟩) 1 1) (hw : WT gtL σ x) (hv : OW σ (.slice q n c) [B8] n n) (h0 : 0 ≤ z) (h1 : z ≤ 255) (hn : n ≤ 90000000)
    (h : ∀ q' c' x' σ', Go1 σ σ' x x' → WT gtL σ' x' → OW σ' (.slice q' (n + 1) c') [B8] (n + 1) (n + 1) → wpList Tryz.prog ops Q rest (a.put o.dst (.slice q' (n + 1) c')) x') : wpList Tryz.prog ops Q (o :: rest) a (x.alloc (.cells #[.int .u8 z] 5)) := by
  obtain ⟨q', c', x', σ', hr, g1, g2, g3⟩ := app_byte hw hv z h0 h1 hn
  refine l_val hg ?_ (h q' c' x' σ' g1 g2 g3)
  simp [execOp, ho, ht, resolve, invoke, builtin, hs, hy, hr]
theorem start_at {σ : S} {w : World} (hw : WT gtL σ w) : ∃ C t f, w.heap[(4 : Nat)]? = some (.cells C t f) ∧ CT σ C.toList w8 ∧ C.size = 8 := by
  have h1 : σ (4 : Nat) = some (false, w8) := hw.tab _ _ (by simp [gtL])
  obtain ⟨C, t, f, h2, _, h3⟩ := hw.blk _ _ _ h1
  exact ⟨C, t, f, h2, h3, by simpa [w8] using h3.1⟩
theorem own_at {σ : S} {w : World} (hw : WT gtL σ w) {b : Nat} (hb : σ b = some (true, w8)) : ∃ C t, w.heap[b]? = some (.cells C t (0, 0)) ∧ CT σ C.toList w8 ∧ C.size = 8 := by
  obtain ⟨C, t, f, h2, hf, h3⟩ := hw.blk _ _ _ hb
  obtain rfl := hf rfl
  exact ⟨C, t, h2, h3, by simpa [w8] using h3.1⟩
theorem CT.all1 {σ : S} {C : Array Value} {l : List K} (h : CT σ C.toList l) (hn : l.all nw = true := by kernel_rfl) : C.all (·.oneCell') = true := by
  rw [Array.all_eq_true_iff_forall_mem]
  exact fun v hv => h.one (fun κ hκ => List.all_eq_true.1 hn κ hκ) v (by simpa using hv)
theorem info8u : (Tryz.prog.info? 251).map (·.size) = some 8 := by kernel_rfl
theorem SS.cut {σ : S} {b off len cap n o' : Nat} (h : SS σ (.slice (some ⟨b, off, none⟩) len cap) false B8 len len) (hn : n ≤ len) (ho : n < len → o' = off + n) : SS σ (.slice (some ⟨b, o', none⟩) (len - n) (cap - n)) false B8 (len - n) (len - n) := by
  obtain ⟨_, _, _, e, h1, h2, h3, h4, h5, h6⟩ := h
  cases e
  refine ⟨_, _, _, rfl, Nat.le_refl _, Nat.le_refl _, by omega, by omega, (fun h => nomatch h), fun p hp => ?_⟩
  cases hp
  obtain ⟨hs, m, l, hb, _, hk⟩ := h6 _ rfl
  refine ⟨rfl, m, l, hb, (fun h => nomatch h), fun i hi => ?_⟩
  rw [ho (by omega)]
  have := hk (n + i) (by omega)
  dsimp only at this ⊢
  rwa [Nat.add_assoc]
theorem SS.form {σ : S} {q : Option Addr} {len cap : Nat} (h : SS σ (.slice q len cap) false B8 len len) (hl : 0 < len) : ∃ b off, q = some ⟨b, off, none⟩ ∧ len ≤ cap := by
  obtain ⟨_, _, _, e, h1, h2, h3, h4, h5, h6⟩ := h
  cases e
  cases q with
  | none => have := h5 rfl; omega
  | some p =>
    obtain ⟨hs, _⟩ := h6 p rfl
    obtain ⟨b, o, s⟩ := p
    obtain rfl : s = none := hs
    exact ⟨b, o, rfl, h3⟩
theorem SS.wider {σ : S} {v : Value} {m : Bool} {κ : K} {lo hi lo' hi' : Nat} (h : SS σ v m κ lo hi) (h1 : lo' ≤ lo) (h2 : hi ≤ hi') : SS σ v m κ lo' hi' := by
  obtain ⟨a, len, cap, e, k1, k2, k3⟩ := h
  exact ⟨a, len, cap, e, by omega, by omega, k3⟩
theorem SS.read {σ : S} {v : Value} {m : Bool} {κ : K} {lo hi : Nat} (h : SS σ v m κ lo hi) : SS σ v false κ lo hi := by
  obtain ⟨a, len, cap, e, k1, k2, k3, k4, k5, k6⟩ := h
  exact ⟨a, len, cap, e, k1, k2, k3, k4, k5, fun p hp => by obtain ⟨hs, m', l, hb, _, hk⟩ := k6 p hp; exact ⟨hs, m', l, hb, (fun h => nomatch h), hk⟩⟩
theorem Ty.own {σ0 σ : S} {w0 w : World} {rb : Nat} (h : Ty σ0 w0 rb σ w) (C : Array Value) (hC : CT σ C.toList w8) (t : TypeId) : Ty σ0 w0 rb (more σ w.heap.size w8) (w.alloc (.cells C t)) := by
  obtain ⟨h1, h2⟩ := Go1.alloc h.wt C t w8 hC
  exact h.next h1 h2
noncomputable def sqA : Env := envOf 82 [(2, .ptr true b64 0), (8, .ptr true w8 0)]
noncomputable def sqB : Env := envOf 82 [(2, .ptr true b64 0), (8, .ptr true w8 0), (9, .ptr true b64 0)]
noncomputable def sqE : Env := envOf 82 [(2, .ptr true b64 0)]
theorem piece_ok {x : Code} {N : Nat} {Γ Γ' : Env} (h : chkR (absK (cx s_turn5) N x Γ) (some Γ') none [] = true) {σ : S} {w : World} {a : Act} {Q : Exit → Act → World → Prop} (hw : WT gtL σ w) (ht : Typed σ a Γ)
    (hQ : ∀ a' w' σ', Go1 σ σ' w w' → WT gtL σ' w' → Typed σ' a' Γ' → Q .normal a' w') : x.wp Tryz.prog Q a w :=
  does (cx_ok s_turn5_ok) N h σ a w Q hw ht (fun σ' a' w' hh g1 g2 => by obtain ⟨_, e, h3⟩ := hh; cases e; exact hQ a' w' σ' g1 g2 h3) (fun _ _ _ hh _ _ => by obtain ⟨_, e, _⟩ := hh; cases e) (fun _ _ _ _ hh _ _ => by obtain ⟨_, hm, _⟩ := hh; cases hm)
theorem ret_ok {x : Code} {N : Nat} {Γ Γ' : Env} (h : chkR (absK (cx s_turn5) N x Γ) none (some Γ') [] = true) {σ : S} {w : World} {a : Act} {Q : Exit → Act → World → Prop} (hw : WT gtL σ w) (ht : Typed σ a Γ)
    (hQ : ∀ a' w' σ', Go1 σ σ' w w' → WT gtL σ' w' → Typed σ' a' Γ' → Q .ret a' w') : x.wp Tryz.prog Q a w :=
  does (cx_ok s_turn5_ok) N h σ a w Q hw ht (fun _ _ _ hh _ _ => by obtain ⟨_, e, _⟩ := hh; cases e) (fun σ' a' w' hh g1 g2 => by obtain ⟨_, e, h3⟩ := hh; cases e; exact hQ a' w' σ' g1 g2 h3) (fun _ _ _ _ hh _ _ => by obtain ⟨_, hm, _⟩ := hh; cases hm)
theorem sq_end {σ0 σ' : S} {w0 w' : World} {a : Act} (g : Go1 σ0 σ' w0 w') (hw : WT gtL σ' w') (ht : Typed σ' a sqE) :
    a.defers = [] ∧ ∃ v, (results Tryz.f105 a.tmps).run Tryz.prog w' = .ok v w' ∧ (∃ v', Ending.returned v = Ending.returned v' ∧ Ans gtL σ0 w0 v' w' (.agg b64)) := by
  obtain ⟨v, hv1, hv2⟩ := resTs_ok (cx_ok sg0_ok) hw ht Tryz.f105 (τ := .agg b64) (by kernel_rfl)
  exact ⟨ht.2.1, v, hv1, v, rfl, σ', g, hw, hv2⟩
set_option maxRecDepth 100000 in
set_option maxHeartbeats 4000000 in
theorem sum5_any {σ : S} {w : World} (hw : WT gtL σ w) {vp : Value} (hp : OW σ vp [.sl 1] 1 8) :
    Calls Tryz.prog 105 #[vp] w fun e w' => ∃ v, e = .returned v ∧ Ans gtL σ w v w' (.agg b64) := by
  obtain ⟨pb, np, cp, rfl, hn1, hn8, hp⟩ : ∃ pb np cp, vp = .slice (some ⟨pb, 0, none⟩) np cp ∧ 1 ≤ np ∧ np ≤ 8 ∧ OW σ (.slice (some ⟨pb, 0, none⟩) np cp) [.sl 1] 1 8 := by
    rcases hp with ⟨_, h⟩ | ⟨b, len, cap, l, rfl, h1, h2, h3, h4, hb, h5, h6⟩
    · cases h
    · exact ⟨b, len, cap, rfl, h1, h2, .inr ⟨b, len, cap, l, rfl, h1, h2, h3, h4, hb, h5, h6⟩⟩
  go_enter Tryz.func105, Tryz.ntmps105
  go_wp2_with fail
  refine (show Code.wp _ _ _ _ (w.alloc (.cells z64 40)) from ?_)
  have HS := Lib.hid (Ty.start z64 (by kernel_rfl) 40 hw)
  have HP := Lib.hid (hp.mono (HS.out.go.le hw))
  clear hw hp
  obtain ⟨wa, hwa⟩ : ∃ wa, wa = w.alloc (.cells z64 40) := ⟨_, rfl⟩
  obtain ⟨σa, hσa⟩ : ∃ σa, σa = more σ w.heap.size b64 := ⟨_, rfl⟩
  rw [← hwa] at HS ⊢
  rw [← hσa] at HS HP
  clear hwa hσa
  go_loopw [3, 15] (fun bv kv wr => ∃ (k : Nat) (q : Option Addr) (n c : Nat) (σk : S), k ≤ np ∧ kv = .int .i64 k ∧ bv = .slice q n c ∧ n ≤ k * 1000000 ∧ Hid (Ty σ w w.heap.size σk wr) ∧ Hid (OW σk (.slice q n c) [B8] n n) ∧ Hid (OW σk (.slice (some ⟨pb, 0, none⟩) np cp) [.sl 1] 1 8)) (fun _ kv _ => np - (intOf kv).toNat)
  case atStart => exact ⟨0, none, 0, 0, σa, Nat.zero_le _, rfl, rfl, by omega, HS, Lib.hid (.inl ⟨rfl, rfl⟩), HP⟩
  case round =>
    obtain ⟨k, q, n, c, σk, hk, rfl, rfl, hn, HT, HB, HP2⟩ := hrel
    clear HS HP
    by_cases hlt : k < np
    · have hltI : (k : Int) < (np : Int) := by omega
      obtain ⟨qa, la, ca, hc, hsl⟩ := part_at HT.out.wt HP2.out hlt
      obtain ⟨v1, x1, hr1, σ1, g1, g2, g3⟩ := app_bytes HT.out.wt HB.out (SL.ss hsl) (by omega)
      obtain ⟨q1, n1, c1, rfl, m1, m2, m3⟩ := g3.form
      have HR1 := Lib.hid hr1
      have HT1 := Lib.hid (HT.out.next g1 g2)
      have HP3 := Lib.hid (HP2.out.mono (g1.le HT.out.wt))
      have HB1 := Lib.hid m3
      clear hr1 g1 g2 g3 m3 hsl
      go_wp2_with (at_builtin; refine l_val rfl (v := .slice q1 n1 c1) (w' := x1) (by simp [execOp, resolve, invoke, builtin, Act.eval, HR1.out]) ?_)
      exact ⟨⟨k + 1, q1, n1, c1, σ1, by omega, by go_num, rfl, by omega, HT1, HB1, HP3⟩, by simp [intOf]; omega⟩
    · have hltI : ¬ (k : Int) < (np : Int) := by omega
      have hn0 : n ≤ 8000000 := by omega
      clear hk hn hlt hn1 hn8 HP2
      obtain ⟨q1, c1, x1, σ1, hr1, g1, g2, g3⟩ := app_byte HT.out.wt HB.out 128 (by decide) (by decide) (by omega)
      have HR1 := Lib.hid hr1
      have HT1 := Lib.hid (HT.out.next g1 g2)
      have HB1 := Lib.hid g3
      clear hr1 g1 g2 g3 HT HB
      obtain ⟨N, hN⟩ : ∃ N, N = n + 1 := ⟨_, rfl⟩
      rw [← hN] at HR1 HB1
      have hN0 : N ≤ 8000001 := by omega
      clear hN
      go_wp2_with (at_builtin; refine l_val rfl (v := .slice q1 N c1) (w' := x1) (by simp [execOp, resolve, invoke, builtin, Act.eval, HR1.out]) ?_)
      clear HR1
      go_loopw [3] (fun bv wr => ∃ (q : Option Addr) (m c : Nat) (σk : S), bv = .slice q m c ∧ m + (240 - m % 128) % 128 ≤ 8000400 ∧ Hid (Ty σ w w.heap.size σk wr) ∧ Hid (OW σk (.slice q m c) [B8] m m)) (fun bv _ => (240 - sliceLen bv % 128) % 128)
      case atStart => exact ⟨q1, N, c1, σ1, rfl, by omega, HT1, HB1⟩
      case round =>
        obtain ⟨q, m, c, σk, rfl, hm, HT, HB⟩ := hrel
        clear HT1 HB1
        by_cases hm2 : m % 128 = 112
        · have h56 : ((m : Int) % 128 == 112) = true := by rw [beq_iff_eq]; omega
          have h56' : ((m : Int) % 128 != 112) = false := by rw [bne_eq_false_iff_eq]; omega
          have hm0 : m ≤ 8000400 := by omega
          obtain ⟨q2, c2, x2, σ2, hr2, g1, g2, g3⟩ := app_noughts HT.out.wt HB.out 8 (by omega)
          replace hr2 : (Builtin.append_ #[31, 3] 31 #[.slice q m c, .int .i64 8]).run Tryz.prog wr = .ok (.slice q2 (m + 8) c2) x2 := hr2
          have HR2 := Lib.hid hr2
          have HT2 := Lib.hid (HT.out.next g1 g2)
          have HB2 := Lib.hid g3
          clear hr2 g1 g2 g3 hm HT HB
          obtain ⟨M, hM⟩ : ∃ M, M = m + 8 := ⟨_, rfl⟩
          rw [← hM] at HR2 HB2
          have HM : Hid (M % 128 = 120 ∧ M ≤ 8000408) := Lib.hid (by omega)
          clear hM hm0 hm2
          go_wp2_with (at_builtin; refine l_val rfl (v := .slice q2 M c2) (w' := x2) (by simp [execOp, resolve, invoke, builtin, Act.eval, HR2.out]) ?_)
          clear HR2 h56 h56'
          go_loopw [3, 7] (fun bv kv wr => ∃ (i : Nat) (q : Option Addr) (c : Nat) (σk : S), i ≤ 8 ∧ kv = .int .i64 (7 - (i : Int)) ∧ bv = .slice q (M + i) c ∧ Hid (Ty σ w w.heap.size σk wr) ∧ Hid (OW σk (.slice q (M + i) c) [B8] (M + i) (M + i))) (fun _ kv _ => (intOf kv + 1).toNat)
          case atStart => exact ⟨0, q2, c2, σ2, by omega, rfl, rfl, HT2, HB2⟩
          case round =>
            obtain ⟨i, q, c, σk, hi, rfl, rfl, HT, HB⟩ := hrel
            clear HT2 HB2
            by_cases hi8 : i < 8
            · have hge : (0 : Int) ≤ 7 - (i : Int) := by omega
              have hge2 : (0 : Int) ≤ 8 * (7 - (i : Int)) := by omega
              have hM := HM.out.2
              go_wp2_with (at_builtin; go_must (refine l_app_byte rfl rfl rfl rfl rfl HT.out.wt HB.out (Int.emod_nonneg _ (by decide)) (Int.le_of_lt_add_one (Int.emod_lt_of_pos _ (by decide))) (by omega) ?_); go_must (intro q3 c3 x3 σ3 g1 g2 g3); go_must (have HT3 := Lib.hid (HT.out.next g1 g2)); have HB3 := Lib.hid g3; clear g1 g2 g3)
              exact ⟨⟨i + 1, q3, c3, σ3, by omega, by congr 1; omega, rfl, HT3, HB3⟩, by simp [intOf]; omega⟩
            · have hge : ¬ (0 : Int) ≤ 7 - (i : Int) := by omega
              obtain rfl : i = 8 := by omega
              rw [show (7 - ((8 : Nat) : Int)) = -1 from rfl]
              obtain ⟨C0, t0, f0, hrow0, hC0, hsz0⟩ := start_at HT.out.wt
              have HROW0 := Lib.hid hrow0
              have HI0 : Hid ((Tryz.prog.info? 251).map (·.size) = some C0.size) := Lib.hid (by rw [hsz0]; exact info8u)
              have HONE0 := Lib.hid hC0.all1
              have HT1 := Lib.hid (HT.out.own C0 hC0 251)
              have HSZ : Hid (#[Value.int .u64 0, .int .u64 0, .int .u64 0, .int .u64 0, .int .u64 0, .int .u64 0, .int .u64 0, .int .u64 0].size = C0.size) := Lib.hid (by rw [hsz0]; rfl)
              have HB1 := Lib.hid ((HB.out.mono ((Go1.alloc HT.out.wt C0 251 w8 hC0).1.le HT.out.wt)).ss.read)
              clear hrow0 hC0 hsz0 hi hi8
              go_wp2_with (first | (refine wpList_load_row rfl 251 _ rfl 4 rfl t0 C0 f0 _ HROW0.out Tryz.underlying251 rfl HI0.out ?_) | (refine Rg.store_row_new rfl 251 _ _ rfl wr.heap.size rfl rfl 251 _ C0 rfl HI0.out HSZ.out HONE0.out ?_))
              obtain ⟨wv, hwv⟩ : ∃ wv, wv = wr.alloc (.cells C0 251) := ⟨_, rfl⟩
              obtain ⟨G, hG⟩ : ∃ G, G = wr.heap.size := ⟨_, rfl⟩
              have HG : Hid (more σk wr.heap.size w8 G = some (true, w8)) := Lib.hid (by unfold more; rw [if_pos hG])
              obtain ⟨σv, hσv⟩ : ∃ σv, σv = more σk wr.heap.size w8 := ⟨_, rfl⟩
              rw [← hσv] at HT1 HB1 HG
              rw [← hwv] at HT1 ⊢
              rw [← hG]
              have HM8 : Hid ((M + 8) % 128 = 0 ∧ M + 8 ≤ 9000000) := Lib.hid (by have := HM.out; omega)
              obtain ⟨L, hL⟩ : ∃ L, L = M + 8 := ⟨_, rfl⟩
              rw [← hL] at HB1 HM8 ⊢
              clear hwv hG hσv hL HM HT HB HROW0 HI0 HONE0 HSZ
              go_loopw [3] (fun bv wr => ∃ (q : Option Addr) (len cap : Nat) (σk : S), bv = .slice q len cap ∧ len % 128 = 0 ∧ len ≤ 9000000 ∧ Hid (Ty σ w w.heap.size σk wr) ∧ Hid (SS σk (.slice q len cap) false B8 len len) ∧ Hid (σk G = some (true, w8))) (fun bv _ => sliceLen bv)
              case atStart => exact ⟨q, L, c, σv, rfl, HM8.out.1, HM8.out.2, HT1, HB1, HG⟩
              case round =>
                obtain ⟨q, len, cap, σk, rfl, hl1, hl2, HT, HB, HH⟩ := hrel
                clear HT1 HB1 HG
                by_cases hl : len = 0
                · subst hl
                  go_upto_region 20 with fail
                  refine piece_ok (N := 10) (Γ := sqA) (Γ' := sqB) (by kernel_rfl) HT.out.wt (typed_of (by simp) rfl (fun y hy => ?_)) (fun a' w' σ' g1 g2 g3 => ?_)
                  · simp only [List.mem_cons, List.not_mem_nil, or_false] at hy
                    rcases hy with rfl | rfl
                    · exact ⟨_, true, rfl, HT.out.res, fun _ => rfl⟩
                    · exact ⟨_, true, rfl, HH.out, fun _ => rfl⟩
                  · go_step
                    go_step
                    refine ret_ok (N := 30) (Γ := sqB) (Γ' := sqE) (by kernel_rfl) g2 g3 (fun a3 w3 σ3 i1 i2 i3 => ?_)
                    exact sq_end ((HT.out.go.trans g1).trans i1) i2 i3
                · obtain ⟨b, off, rfl, hcap⟩ := HB.out.form (by omega)
                  obtain ⟨C, t1, hrow, hC, hsz⟩ := own_at HT.out.wt HH.out
                  have hlt : 0 < len := by omega
                  have hltI : (0 : Int) < (len : Int) := by omega
                  have HROW := Lib.hid hrow
                  have HI1 : Hid ((Tryz.prog.info? 251).map (·.size) = some C.size) := Lib.hid (by rw [hsz]; exact info8u)
                  have hcall := (press5_calls HT.out.wt (vs := #[.agg C, .slice (some ⟨b, off, none⟩) len cap]) (VTs.mk2 ⟨C, rfl, hC⟩ (HB.out.wider (by omega) (by omega)))).2
                  clear hrow hC
                  go_wp2_with (first | (refine wpList_load_row rfl 251 _ rfl G rfl t1 C (0, 0) _ HROW.out Tryz.underlying251 rfl HI1.out ?_))
                  refine hcall.mono ?_
                  rintro _ w2 ⟨_, rfl, σ2, g1, g2, C2, rfl, hC2⟩
                  have HH2 := g1.le HT.out.wt _ _ HH.out
                  obtain ⟨D, t2, hrow2, _, hsz2⟩ := own_at g2 HH2
                  have hset := Go1.set g2 HH2 C2 hC2
                  have hsz3 : C2.size = 8 := by simpa [w8] using hC2.1
                  have HI2 : Hid ((Tryz.prog.info? 251).map (·.size) = some C2.size) := Lib.hid (by rw [hsz3]; exact info8u)
                  have HS2 : Hid (D.size = C2.size) := Lib.hid (hsz2.trans hsz3.symm)
                  have HONE := Lib.hid hC2.all1
                  have HROW2 := Lib.hid hrow2
                  obtain ⟨o', hcut, ho'⟩ := sl_low b off len cap 128 (by omega) hcap
                  replace hcut : ∀ w : World, (Instr.sliceAt 31 (.slice (some ⟨b, off, none⟩) len cap) (some (.int .i64 128)) none none).run Tryz.prog w = .ok (.slice (some ⟨b, o', none⟩) (len - 128) (cap - 128)) w := hcut
                  have HT2 := Lib.hid ((HT.out.next g1 g2).next hset.1 hset.2)
                  have HB2 := Lib.hid ((HB.out.mono (g1.le HT.out.wt)).cut (show 128 ≤ len by omega) ho')
                  have HH3 := Lib.hid HH2
                  have hl4 : (len - 128) % 128 = 0 ∧ len - 128 ≤ 9000000 ∧ len - 128 < len := by omega
                  have HL4 := Lib.hid hl4
                  clear hcall g1 g2 hC2 hrow2 hset hsz3 hsz2 ho' HB HT HH HH2 HROW HI1 hl1 hl2 hl hl4 hlt hltI hsz
                  go_wp2_with (first | (refine Rg.store_row rfl 251 _ _ rfl G rfl t2 D C2 rfl HROW2.out HI2.out HS2.out HONE.out ?_))
                  exact ⟨⟨_, _, _, σ2, rfl, HL4.out.1, HL4.out.2.1, HT2, HB2, HH3⟩, HL4.out.2.2⟩
        · have h56 : ((m : Int) % 128 == 112) = false := by rw [beq_eq_false_iff_ne]; omega
          have h56' : ((m : Int) % 128 != 112) = true := by rw [bne_iff_ne]; omega
          obtain ⟨q2, c2, x2, σ2, hr2, g1, g2, g3⟩ := app_byte HT.out.wt HB.out 0 (by decide) (by decide) (by omega)
          have HR2 := Lib.hid hr2
          have HT2 := Lib.hid (HT.out.next g1 g2)
          have HB2 := Lib.hid g3
          have HM := Lib.hid (And.intro hm hm2)
          clear hr2 g1 g2 g3 hm hm2 HT HB
          go_wp2_with (at_builtin; refine l_val rfl (v := .slice q2 (m + 1) c2) (w' := x2) (by simp [execOp, resolve, invoke, builtin, Act.eval, HR2.out]) ?_)
          have hm := HM.out
          exact ⟨⟨q2, m + 1, c2, σ2, rfl, by omega, HT2, HB2⟩, by show (240 - (m + 1) % 128) % 128 < (240 - m % 128) % 128; omega⟩
theorem sum5_ok : SigOk Tryz.prog gtL 105 [.ow [.sl 1] 1 8] (.agg b64) := by
  intro σ w vs hw hv
  obtain ⟨x, rfl, hx⟩ := hv.one
  exact .inr ⟨by simp [callFunc, Tryz.func105, Tryz.f105, mark], sum5_any hw hx⟩
end Ab
end Go.Proofs.YtjkbpdobeljmjaaGreatDoor

/- Signatures: sign.Sign ends, with 64 bytes. Plain; no condition. -/
namespace Go.Proofs.YtjkbpdobeljmjaaGreatDoor
open Go.RowKit
namespace Ab
def b96 : List K := b32 ++ b32 ++ b32
theorem sum5_sig : SigOk Tryz.prog gtL 105 [.ow [.sl 1] 1 8] (.agg b64) := sum5_ok
def s_sum5 : List (Nat × List T × T) := (105, [.ow [.sl 1] 1 8], .agg b64) :: s_press5
theorem s_sum5_ok : ∀ x ∈ s_sum5, SigOk Tryz.prog gtL x.1 x.2.1 x.2.2 := more_ok s_press5_ok sum5_sig
theorem snum_sig : SigOk Tryz.prog gtL 61 [.ow [.sl 1] 1 8] (E4) := sig_ok (cx_ok s_sum5_ok) 10 Tryz.func61 (by kernel_rfl)
def s_snum : List (Nat × List T × T) := (61, [.ow [.sl 1] 1 8], E4) :: s_sum5
theorem s_snum_ok : ∀ x ∈ s_snum, SigOk Tryz.prog gtL x.1 x.2.1 x.2.2 := more_ok s_sum5_ok snum_sig
theorem clamp_sig : SigOk Tryz.prog gtL 106 [A32] (A32) := sig_ok (cx_ok s_snum_ok) 10 Tryz.func106 (by kernel_rfl)
def s_clamp : List (Nat × List T × T) := (106, [A32], A32) :: s_snum
theorem s_clamp_ok : ∀ x ∈ s_clamp, SigOk Tryz.prog gtL x.1 x.2.1 x.2.2 := more_ok s_snum_ok clamp_sig
theorem sof32_sig : SigOk Tryz.prog gtL 68 [.ss false B8 32 32] (E4) := sig_ok (cx_ok s_clamp_ok) 600 Tryz.func68 (by kernel_rfl)
def s_sof32 : List (Nat × List T × T) := (68, [.ss false B8 32 32], E4) :: s_clamp
theorem s_sof32_ok : ∀ x ∈ s_sof32, SigOk Tryz.prog gtL x.1 x.2.1 x.2.2 := more_ok s_clamp_ok sof32_sig
theorem sadd_sig : SigOk Tryz.prog gtL 66 [E4, E4] (E4) := sig_ok (cx_ok s_sof32_ok) 300 Tryz.func66 (by kernel_rfl)
def s_sadd : List (Nat × List T × T) := (66, [E4, E4], E4) :: s_sof32
theorem s_sadd_ok : ∀ x ∈ s_sadd, SigOk Tryz.prog gtL x.1 x.2.1 x.2.2 := more_ok s_sof32_ok sadd_sig
theorem smul_sig : SigOk Tryz.prog gtL 67 [E4, E4] (E4) := sig_ok (cx_ok s_sadd_ok) 300 Tryz.func67 (by kernel_rfl)
def s_smul : List (Nat × List T × T) := (67, [E4, E4], E4) :: s_sadd
theorem s_smul_ok : ∀ x ∈ s_smul, SigOk Tryz.prog gtL x.1 x.2.1 x.2.2 := more_ok s_sadd_ok smul_sig
theorem spread_sig : SigOk Tryz.prog gtL 60 [A32] (.agg b96) := sig_ok (cx_ok s_smul_ok) 10 Tryz.func60 (by kernel_rfl)
def s_spread : List (Nat × List T × T) := (60, [A32], .agg b96) :: s_smul
theorem s_spread_ok : ∀ x ∈ s_spread, SigOk Tryz.prog gtL x.1 x.2.1 x.2.2 := more_ok s_smul_ok spread_sig
theorem sgn_calls {σ : S} {w : World} {vs : Array Value} (hw : WT gtL σ w) (hvs : VTs σ vs.toList [A32, .sl 1]) : (callFunc 30 vs).run Tryz.prog w = .ok (.enter 30 vs) w ∧ Calls Tryz.prog 30 vs w fun e w' => ∃ v, e = .returned v ∧ Ans gtL σ w v w' (.agg b64) := sig_calls (cx_ok s_spread_ok) 10 Tryz.func30 (by kernel_rfl) hw hvs
end Ab
end Go.Proofs.YtjkbpdobeljmjaaGreatDoor


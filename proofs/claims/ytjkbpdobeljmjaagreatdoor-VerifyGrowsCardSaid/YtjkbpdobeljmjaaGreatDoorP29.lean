/- A part of the proof. Plain; no condition. -/
import Derived.Test.YtjkbpdobeljmjaaGreatDoorP28
import Derived.Test.YtjkbpdobeljmjaaGreatDoorP4
import Derived.Test.YtjkbpdobeljmjaaGreatDoorP17
import Derived.Test.YtjkbpdobeljmjaaGreatDoorP14
import Derived.Great.BuildSlice
import Derived.Great.FillDense
/- sign.Sign ends with 64 bytes, and leaves all that is old. Conditions: the tables lie. -/
namespace Go.Proofs.YtjkbpdobeljmjaaGreatDoor
set_option linter.unusedVariables false
set_option linter.unusedSimpArgs false
open Go.RowKit Bits Mem Sha
namespace Ab
def tabS : S := fun g => (gOf gtL g).map fun l => (false, l)
theorem tabS_mem : ∀ x ∈ gtL.l, gOf gtL x.1 = some x.2 := by
  have h : (gtL.l.all fun x => decide (gOf gtL x.1 = some x.2)) = true := by kernel_rfl
  exact fun x hx => of_decide_eq_true (List.all_eq_true.1 h x hx)
def kint : K → Bool
  | .int _ => true
  | _ => false
theorem gtL_int : ∀ x ∈ gtL.l, ∀ κ ∈ x.2, kint κ = true := by
  have h : (gtL.l.all fun x => x.2.all kint) = true := by kernel_rfl
  exact fun x hx κ hκ => List.all_eq_true.1 (List.all_eq_true.1 h x hx) κ hκ
theorem b32_rep : b32 = List.replicate 32 B8 := rfl
theorem CT_bys {σ : S} {l : List UInt8} {n : Nat} (h : l.length = n) : CT σ (bys l) (List.replicate n B8) := by
  refine ⟨by rw [bys_length, List.length_replicate, h], fun i κ hi => ?_⟩
  rw [List.getElem?_replicate] at hi
  split at hi
  · rename_i hlt
    cases hi
    exact ⟨_, bys_get l i (by omega), _, rfl, by show (0 : Int) ≤ _; omega, by have := (l.getD i 0).toNat_lt; show _ ≤ (255 : Int); omega⟩
  · cases hi
theorem VT_bys {σ : S} {l : List UInt8} (h : l.length = 32) : VT σ (.agg (bysA l)) (.agg b32) := ⟨bysA l, rfl, by rw [b32_rep]; exact CT_bys h⟩
def CellsAt (w : World) (q : Option Addr) : Prop := ∀ p, q = some p → ∃ C t f, w.heap[p.block]? = some (.cells C t f)
def argK (o n m : Nat) : List K := (List.range m).map fun i => if o ≤ i ∧ i < o + n then K.int .u8 else K.wild
theorem argK_get {o n m i : Nat} {κ : K} (h : (argK o n m)[i]? = some κ) : i < m ∧ κ = if o ≤ i ∧ i < o + n then K.int .u8 else K.wild := by
  unfold argK at h
  rw [List.getElem?_map] at h
  obtain ⟨j, h1, h2⟩ := Option.map_eq_some_iff.1 h
  obtain ⟨h3, h4⟩ := List.getElem?_eq_some_iff.1 h1
  rw [List.getElem_range] at h4
  rw [List.length_range] at h3
  subst h4
  exact ⟨h3, h2.symm⟩
theorem arg_open {w : World} (hT : WT gtL tabS w) {q : Option Addr} {c : Nat} {X : List UInt8} (hx : Mem.Rd w 1 (.slice q X.length c) X.length (Mem.bys X)) (hq : CellsAt w q) (hl : X.length ≤ 1000000) :
    ∃ σ, WT gtL σ w ∧ VT σ (.slice q X.length c) (.sl 1) ∧ ∀ b l, σ b ≠ some (true, l) := by
  have hro : ∀ b l, tabS b ≠ some (true, l) := fun b l e => by
    unfold tabS at e
    obtain ⟨_, _, h2⟩ := Option.map_eq_some_iff.1 e
    cases h2
  obtain ⟨_, hx | ⟨b, off, cap, hv, hb, hc, hm, hcell⟩⟩ := hx
  · obtain ⟨e, _⟩ := hx
    exact ⟨tabS, hT, by rw [e]; exact SL_nil _ _, hro⟩
  · cases hv
    obtain ⟨C, t, f, hh⟩ := hq _ rfl
    dsimp only at hh
    have hat : ∀ i, i < X.length → C.toList[off + i]? = some (.int .u8 ((X.getD i 0).toNat : Int)) := fun i hi => by
      have := hcell i _ (bys_get X i hi)
      rw [cell_of_row w b _ _ _ _ hh] at this
      simpa using this
    cases hs : tabS b with
    | some x =>
      obtain ⟨m', l'⟩ := x
      have hml : (b, l') ∈ gtL.l := by
        unfold tabS at hs
        obtain ⟨l2, h1, h2⟩ := Option.map_eq_some_iff.1 hs
        cases h2
        exact gOf_mem h1
      obtain ⟨D, t', f', hh', _, hD⟩ := hT.blk b m' l' hs
      rw [hh] at hh'
      cases hh'
      refine ⟨tabS, hT, ⟨_, _, _, rfl, hc, hm, hl, (fun h => nomatch h), fun p hp => ?_⟩, hro⟩
      cases hp
      refine ⟨rfl, m', l', hs, fun i hi => ?_⟩
      rw [Nat.mul_one] at hi
      have h1 := hat i hi
      have hlt : off + i < l'.length := by rw [← hD.1]; exact (List.getElem?_eq_some_iff.1 h1).1
      have h2 : l'[off + i]? = some l'[off + i] := List.getElem?_eq_getElem _
      obtain ⟨v, h3, h4⟩ := hD.2 _ _ h2
      rw [h1] at h3
      cases h3
      have hk := gtL_int _ hml _ (List.mem_of_getElem? h2)
      dsimp only
      rw [h2]
      revert h4 hk
      generalize l'[off + i] = κ
      intro hk h4
      cases κ <;> first | (obtain ⟨n, e, _⟩ := hk; cases e; rfl) | cases h4
    | none =>
      obtain ⟨σ, hσ⟩ : ∃ σ : S, σ = fun k => if k = b then some (false, argK off X.length C.size) else tabS k := ⟨_, rfl⟩
      have hle : Le tabS σ := fun k x hk => by
        rw [hσ]
        dsimp only
        rw [if_neg (fun e => by rw [e, hs] at hk; cases hk)]
        exact hk
      have hbσ : σ b = some (false, argK off X.length C.size) := by rw [hσ]; exact if_pos rfl
      refine ⟨σ, ⟨fun g l hg => hle _ _ (hT.tab g l hg), fun g D hg => ?_, fun k m l hk => ?_⟩, ⟨_, _, _, rfl, hc, hm, hl, (fun h => nomatch h), fun p hp => ?_⟩, fun k l e => ?_⟩
      · obtain ⟨⟨l, h1⟩, h2⟩ := hT.fx g D hg
        exact ⟨⟨l, hle _ _ h1⟩, h2⟩
      · by_cases hkb : k = b
        · subst hkb
          rw [hbσ] at hk
          cases hk
          refine ⟨C, t, f, hh, (fun h => nomatch h), by simp [argK], fun i κ hi => ?_⟩
          obtain ⟨h1, h2⟩ := argK_get hi
          refine ⟨_, List.getElem?_eq_getElem (by simpa using h1), ?_⟩
          rw [h2]
          split
          · rename_i hr
            have := hat (i - off) (by omega)
            rw [show off + (i - off) = i by omega, List.getElem?_eq_getElem (by simpa using h1)] at this
            have e := Option.some.inj this
            rw [e]
            refine ⟨_, rfl, ?_, ?_⟩
            · show (0 : Int) ≤ _; omega
            · have := (X.getD (i - off) 0).toNat_lt; show _ ≤ (255 : Int); omega
          · trivial
        · rw [hσ] at hk
          dsimp only at hk
          rw [if_neg hkb] at hk
          obtain ⟨D, t', f', h1, h2, h3⟩ := hT.blk k m l hk
          exact ⟨D, t', f', h1, h2, h3.mono hle⟩
      · cases hp
        refine ⟨rfl, _, _, hbσ, fun i hi => ?_⟩
        rw [Nat.mul_one] at hi
        dsimp only
        have h1 := (List.getElem?_eq_some_iff.1 (hat i hi)).1
        rw [Array.length_toList] at h1
        unfold argK
        rw [List.getElem?_map, List.getElem?_range h1]
        exact congrArg some (if_pos (⟨by omega, by omega⟩ : off ≤ off + i ∧ off + i < off + X.length))
      · rw [hσ] at e
        dsimp only at e
        split at e
        · cases e
        · exact hro _ _ e
theorem Go1.ro {σ σ' : S} {w w' : World} (h : Go1 σ σ' w w') (hr : ∀ b l, σ b ≠ some (true, l)) : Below w.heap.size w w' :=
  ⟨h.os, h.tape, h.output, h.size, fun b hb => h.kept b hb (hr b)⟩
theorem WT.lowB {B : Nat} {w w' : World} (h : WT gtL tabS w) (hb : Below B w w') (hl : ∀ x ∈ gtL.l, x.1 < B) : WT gtL tabS w' := by
  have mem : ∀ b m l, tabS b = some (m, l) → (b, l) ∈ gtL.l := fun b m l e => by
    unfold tabS at e
    obtain ⟨l', h1, h2⟩ := Option.map_eq_some_iff.1 e
    cases h2
    exact gOf_mem h1
  refine ⟨h.tab, fun g C hg => ?_, fun b m l e => ?_⟩
  · obtain ⟨⟨l, hl'⟩, t, f, hh⟩ := h.fx g C hg
    exact ⟨⟨l, hl'⟩, t, f, (hb.block g (hl _ (mem _ _ _ hl'))).trans hh⟩
  · obtain ⟨C, t, f, h1, h2, h3⟩ := h.blk b m l e
    exact ⟨C, t, f, (hb.block b (hl _ (mem _ _ _ e))).trans h1, h2, h3⟩
theorem sign_any {w : World} (hT : WT gtL tabS w) {seed l : List UInt8} (hs : seed.length = 32) {q : Option Addr} {c : Nat} (hx : Rd w 1 (.slice q l.length c) l.length (bys l)) (hq : CellsAt w q) (hl : l.length ≤ 1000000) :
    Calls Tryz.prog 30 #[.agg (bysA seed), .slice q l.length c] w fun e w' => ∃ G : Array Value, e = .returned (.agg G) ∧ G.size = 64 ∧ G.all (·.oneCell') = true ∧ Below w.heap.size w w' := by
  obtain ⟨σ, h1, h2, h3⟩ := arg_open hT hx hq hl
  refine (sgn_calls h1 (VTs.mk2 (VT_bys hs) h2)).2.mono ?_
  rintro _ w' ⟨v, rfl, σ', g1, g2, G, rfl, hG⟩
  refine ⟨G, rfl, by have := hG.1; simpa [b64, b32, b8] using this, ?_, g1.ro h3⟩
  rw [Array.all_eq_true_iff_forall_mem]
  intro u hu
  exact hG.one (by have h : (b64.all nw) = true := by kernel_rfl
                   exact fun κ hκ => List.all_eq_true.1 h κ hκ) u (by simpa using hu)
end Ab
end Go.Proofs.YtjkbpdobeljmjaaGreatDoor

/- super.Seal over no members, exactly as far as its log goes. Conditions: the tables lie. -/
namespace Go.Proofs.YtjkbpdobeljmjaaGreatDoor
set_option linter.unusedVariables false
set_option linter.unusedSimpArgs false
open Go.RowKit Bits Mem Sha
namespace Gr
open Stn (PartAt info32r)
open Ref (RdL OwL All32 leafS treeS range_list info_zero leafS_length)
theorem _root_.Go.Proofs.YtjkbpdobeljmjaaGreatDoor.Mem.Ow.typedG {w : World} {B s n : Nat} {e : TypeId} {v : Value} {xs : List Value} (h : Ow w B e s v n xs) {k : Nat} (hk : v.ownBlock = some k) : ∃ cur fz, w.heap[k]? = some (.cells cur e fz) := by
  rcases h.2 with ⟨rfl, _⟩ | ⟨g, cap, cur, fz, rfl, hb, hg, _⟩
  · cases hk
  · cases hk; exact ⟨cur, fz, hg⟩
theorem ne_typedG {w : World} {i j : Nat} {c1 c2 : Array Value} {t1 t2 : TypeId} {f1 f2 : Nat × Nat} (h1 : w.heap[i]? = some (.cells c1 t1 f1)) (h2 : w.heap[j]? = some (.cells c2 t2 f2)) (ht : t1 ≠ t2) : i ≠ j := by
  intro e
  subst e
  rw [h1] at h2
  cases h2
  exact ht rfl
theorem setRow_otherE {w : World} {g : Nat} (C : Array Value) {k : Nat} (h : k ≠ g) : (w.setRow g C).heap[k]? = w.heap[k]? := by
  unfold World.setRow
  exact (Array.getElem?_modify ..).trans (if_neg (Ne.symm h))
theorem Kp.setRow (w : World) (g : Nat) (C : Array Value) : Kp (fun k => k = g) w (w.setRow g C) := ⟨rfl, rfl, rfl, by rw [setRow_size]; exact Nat.le_refl _, fun k _ hn => setRow_otherE _ hn⟩
theorem Kp.setCell (w : World) (g i : Nat) (v : Value) : Kp (fun k => k = g) w (w.setCell ⟨g, i, none⟩ v) := by
  have h := grown_setCell w g i v
  exact ⟨h.os, h.tape, h.output, h.size, fun k hk hn => h.block k hk (fun e => hn (Option.some.inj e))⟩
theorem _root_.Go.Proofs.YtjkbpdobeljmjaaGreatDoor.Mem.Kp.mono' {S T : Nat → Prop} {w w' : World} (h : Kp S w w') (hT : ∀ k, S k → T k) : Kp T w w' := ⟨h.os, h.tape, h.output, h.size, fun k hk hn => h.block k hk (fun hs => hn (hT k hs))⟩
theorem Kp.lower {S T : Nat → Prop} {w w' w'' : World} (h : Kp S w w') (h' : Kp T w' w'') (hT : ∀ k, k < w.heap.size → T k → S k) : Kp S w w'' := h.trans h' hT
structure Tb (base : Nat) (w : World) : Prop where
  sha : Sha.Tabs w
  wt : Ab.WT Ab.gtL Ab.tabS w
  lo : (3 : Nat) < base ∧ (6 : Nat) < base
  lw : ∀ x ∈ Ab.gtL.l, x.1 < base
  le : base ≤ w.heap.size
theorem Tb.below {base : Nat} {w w' : World} (h : Tb base w) (hb : Below base w w') : Tb base w' := ⟨Sha.Tabs.rows h.sha hb h.lo, h.wt.lowB hb h.lw, h.lo, h.lw, Nat.le_trans h.le hb.size⟩
theorem Tb.kp {base : Nat} {w w' : World} {S : Nat → Prop} (h : Tb base w) (hk : Kp S w w') (hS : ∀ k, S k → base ≤ k) : Tb base w' := h.below (hk.below h.le hS)
theorem l_bs1 {P : Program} {Q : Exit → Act → World → Prop} {ops : Array Oper} {a : Act} {w w' : World} {o : Oper} {rest : List Oper} {v : Value} (hg : o.guard = none) (t : TypeId) (x0 : Operand) (ho : o.op = .buildSlice t 1 #[(0, x0)]) (v0 : Value) (h0 : a.eval x0 = v0) (hr : (Instr.buildSlice t 1 #[(0, v0)]).run P w = .ok v w') (h : wpList P ops Q rest (a.put o.dst v) w') : wpList P ops Q (o :: rest) a w := by
  refine wpList_plain hg fun K' hK' => ?_
  unfold Oper.wp
  have hm : (#[(0, x0)] : Array (Nat × Operand)).map (fun (i, x) => (i, a.eval x)) = #[(0, v0)] := by rw [← h0]; simp
  have : (execOp a.eval o).run P w = .ok (.value v) w' := by simp only [execOp, ho, Sem.run_bind, hm, hr, Result.andThen_ok, Sem.run_pure]
  rw [this]
  exact hK' _ _ h
theorem run_bs1 {P : Program} {t e : TypeId} {s : Nat} {z : Value} {ie : TypeInfo} (hu : P.underlying t = some (.slice e)) (hie : P.info? e = some ie) (hz : ie.zero = some z) (hs : ie.size = s) (h0 : 0 < s) (h1 : s ≤ 1000) (A : Array Value) (hA : A.size = s) (w : World) :
    (Instr.buildSlice t 1 #[(0, .agg A)]).run P w = .ok (.slice (some ⟨w.heap.size, 0, none⟩) 1 1) (w.alloc (.cells A e)) := by
  refine run_buildSlice (P := P) w t e 1 _ _ ie z hu hie hz (by rw [hs]; omega) (by rw [hs]; omega) ?_
  rw [hs]
  have h := Great.fill_whole (s := s) h0 [.agg A] ((Array.range (1 * s)).map (z.cells[· % z.cells.size]!)) (fun v hv => by
    simp only [List.mem_singleton] at hv
    subst hv
    exact hA) (by rw [Array.size_map, Array.size_range]; rfl)
  refine Eq.trans h ?_
  congr 1
  apply Array.ext'
  simp [Value.cells]
def sgnA (n : Int) (root sg : List UInt8) : Array Value := #[.int .i64 n] ++ (bysA root ++ bysA sg)
theorem sgnA_size {n : Int} {root sg : List UInt8} (hr : root.length = 32) (hs : sg.length = 64) : (sgnA n root sg).size = 97 := by unfold sgnA; rw [Array.size_append, Array.size_append, bysA_size, bysA_size, hr, hs]; rfl
theorem sgnA_one (n : Int) (root sg : List UInt8) : (sgnA n root sg).all (·.oneCell') = true := by
  unfold sgnA
  rw [Array.all_append, Array.all_append, bysA_one, bysA_one]
  simp [Value.oneCell']
theorem sgn_built0 (g : Nat → UInt8) (n : Int) : Tryz.prog.built 42 [(0, .int .i64 n), (1, .agg (bysA ((List.range 32).map g)))] = some (sgnA n ((List.range 32).map g) (List.replicate 64 0)) := by kernel_rfl
theorem sgn_built (n : Int) (s : List UInt8) (h : s.length = 32) : Tryz.prog.built 42 [(0, .int .i64 n), (1, .agg (bysA s))] = some (sgnA n s (List.replicate 64 0)) := by
  have := sgn_built0 (fun i => s.getD i 0) n
  rwa [range_list s h] at this
theorem sgn_root {n : Int} {root sg : List UInt8} : PartAt (sgnA n root sg) 1 (bysA root) := fun j u hu => by
  unfold sgnA
  have hj := (Array.getElem?_eq_some_iff.1 hu).1
  rw [Array.getElem?_append_right (by simp), Array.getElem?_append_left (by simpa using hj)]
  simpa using hu
theorem infoSg : (Tryz.prog.info? 42).map (fun i => (i.zero.map (·.cells.size), i.size, i.bytes)) = some (some 97, 97, 104) := by kernel_rfl
theorem infoSg1 {C : Array Value} (h : C.size = 97) : (Tryz.prog.info? 42).map (·.size) = some C.size := by rw [h]; kernel_rfl
theorem infoG {C : Array Value} (h : C.size = 64) : (Tryz.prog.info? 40).map (·.size) = some C.size := by rw [h]; kernel_rfl
theorem zeroSg : (Tryz.zeroCells42).size = 97 := by decide +kernel
def SupAt (w : World) (ub base : Nat) (seed : List UInt8) (q1 : Option Addr) (c1 : Nat) (q2 : Option Addr) (c2 : Nat) (D : List (List UInt8)) : Prop :=
  Rs.LogAt w ub 34 (supC seed (.pointer none) (.slice q1 D.length c1) (.slice q2 D.length c2)) 117 base q2 c2 D ∧ (∃ xs, Ow w base 42 97 (.slice q1 D.length c1) D.length xs) ∧ seed.length = 32 ∧ base ≤ ub
theorem SupAt.row {w : World} {ub base : Nat} {seed : List UInt8} {q1 q2 : Option Addr} {c1 c2 : Nat} {D : List (List UInt8)} (h : SupAt w ub base seed q1 c1 q2 c2 D) : w.heap[ub]? = some (.cells (supC seed (.pointer none) (.slice q1 D.length c1) (.slice q2 D.length c2)) 117 (0, 0)) := h.1.1.1
def Tn (ub : Nat) (v1 v2 : Value) (k : Nat) : Prop := k = ub ∨ v1.ownBlock = some k ∨ v2.ownBlock = some k
theorem SupAt.typed {w : World} {ub base : Nat} {seed : List UInt8} {q1 q2 : Option Addr} {c1 c2 : Nat} {D : List (List UInt8)} (h : SupAt w ub base seed q1 c1 q2 c2 D) {k : Nat} (hk : Tn ub (.slice q1 D.length c1) (.slice q2 D.length c2) k) : base ≤ k ∧ ∃ C t f, w.heap[k]? = some (.cells C t f) ∧ (t = 117 ∨ t = 42 ∨ t = 22) := by
  have own : ∀ {e : TypeId} {s n : Nat} {v : Value} {xs : List Value}, Ow w base e s v n xs → v.ownBlock = some k → base ≤ k ∧ ∃ C f, w.heap[k]? = some (.cells C e f) := fun ho hv => by
    refine ⟨(ho.lt k hv).1, ?_⟩
    rcases ho.2 with ⟨rfl, _⟩ | ⟨g, cap, cur, fz, rfl, hb, hg, _⟩
    · cases hv
    · cases hv; exact ⟨cur, fz, hg⟩
  rcases hk with rfl | hk | hk
  · exact ⟨h.2.2.2, _, _, _, h.row, .inl rfl⟩
  · obtain ⟨xs, ho⟩ := h.2.1
    obtain ⟨h1, C, f, h2⟩ := own ho hk
    exact ⟨h1, C, _, f, h2, .inr (.inl rfl)⟩
  · obtain ⟨h1, C, f, h2⟩ := own h.1.2.2 hk
    exact ⟨h1, C, _, f, h2, .inr (.inr rfl)⟩
end Gr
end Go.Proofs.YtjkbpdobeljmjaaGreatDoor


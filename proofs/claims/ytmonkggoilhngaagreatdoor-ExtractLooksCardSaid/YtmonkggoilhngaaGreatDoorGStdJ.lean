/- What an answer to Standing shows. Conditions: none beyond the bounds of bytes. -/
import Derived.Test.YtmonkggoilhngaaGreatDoorGStdE
import Derived.Test.YtmonkggoilhngaaGreatDoorGTenH
import Derived.Test.YtmonkggoilhngaaGreatDoorGOpenD
namespace Go.Proofs.YtmonkggoilhngaaGreatDoor
set_option linter.unusedVariables false
set_option linter.unusedSimpArgs false
open Go.RowKit Bits Mem Sha
namespace Stn
open Ref (RdL All32 range_list)
theorem infoSeen : (Tryz.prog.info? 50).map (·.size) = some 103 := by kernel_rfl
theorem load_rowI {x : World} {b off : Nat} {v : Value} (h : x.cell? ⟨b, off, none⟩ = some v) : (Instr.loadAt 3 (.pointer (some ⟨b, off, none⟩))).run Tryz.prog x = .ok v x := by
  simp [Instr.loadAt, Instr.sureAddr, loadVar, isAgg, run_underlying Tryz.underlying3, h]
structure AnsIs (w : World) (A : Array Value) (M U : Array Value) : Prop where
  size : A.size = 646
  kind : ∃ k : Int, A[0]? = some (.int .i64 k)
  err : ∃ k : Int, A[1]? = some (.int .i64 k)
  memP : PartAt A 577 M
  undP : PartAt A 379 U
end Stn
end Go.Proofs.YtmonkggoilhngaaGreatDoor
/- An answer told from bytes, opened. Conditions: none beyond the bounds of bytes. -/
namespace Go.Proofs.YtmonkggoilhngaaGreatDoor
open Go.RowKit Bits Mem Sha
namespace Ab
theorem told_calls {σ : S} {w : World} {vs : Array Value} (hw : WT gtL σ w) (hvs : VTs σ vs.toList [.sl 1]) : (callFunc 5 vs).run Tryz.prog w = .ok (.enter 5 vs) w ∧ Calls Tryz.prog 5 vs w fun e w' => ∃ v, e = .returned v ∧ Ans gtL σ w v w' (.t2 (.agg answerK) TI64) := sig_calls (cx_ok s_rright_ok) 10 Tryz.func5 (by kernel_rfl) hw hvs
def CellsAt (w : World) (q : Option Addr) : Prop := ∀ p, q = some p → ∃ C t f, w.heap[p.block]? = some (.cells C t f)
theorem CellsAt.below {w w' : World} {q : Option Addr} (h : CellsAt w q) (hb : Below w.heap.size w w') : CellsAt w' q := fun p hp => by
  obtain ⟨C, t, f, hh⟩ := h p hp
  exact ⟨C, t, f, (hb.block _ (lt_of_heap hh)).trans hh⟩
def argK (o n m : Nat) : List K := (List.range m).map fun i => if o ≤ i ∧ i < o + n then K.int .u8 else K.wild
theorem argK_get {o n m i : Nat} {κ : K} (h : (argK o n m)[i]? = some κ) : i < m ∧ κ = if o ≤ i ∧ i < o + n then K.int .u8 else K.wild := by
  unfold argK at h
  rw [List.getElem?_map] at h
  obtain ⟨j, h1, h2⟩ := Option.map_eq_some_iff.1 h
  obtain ⟨h3, h4⟩ := List.getElem?_eq_some_iff.1 h1
  rw [List.getElem_range] at h4
  rw [List.length_range] at h3
  subst h4
  exact ⟨h3, h2.symm⟩
theorem arg_open {w : World} (hT : WT gtL tabS w) {q : Option Addr} {c : Nat} {X : List UInt8} (hx : Mem.Rd w 1 (.slice q X.length c) X.length (Mem.bys X)) (hq : CellsAt w q) (hl : X.length ≤ 1000000) :
    ∃ σ, WT gtL σ w ∧ VT σ (.slice q X.length c) (.sl 1) ∧ ∀ b l, σ b ≠ some (true, l) := by
  have hro : ∀ b l, tabS b ≠ some (true, l) := fun b l e => by
    unfold tabS at e
    obtain ⟨_, _, h2⟩ := Option.map_eq_some_iff.1 e
    cases h2
  obtain ⟨_, hx | ⟨b, off, cap, hv, hb, hc, hm, hcell⟩⟩ := hx
  · obtain ⟨e, _⟩ := hx
    exact ⟨tabS, hT, by rw [e]; exact SL_nil _ _, hro⟩
  · cases hv
    obtain ⟨C, t, f, hh⟩ := hq _ rfl
    dsimp only at hh
    have hat : ∀ i, i < X.length → C.toList[off + i]? = some (.int .u8 ((X.getD i 0).toNat : Int)) := fun i hi => by
      have := hcell i _ (bys_get X i hi)
      rw [cell_of_row w b _ _ _ _ hh] at this
      simpa using this
    cases hs : tabS b with
    | some x =>
      obtain ⟨m', l'⟩ := x
      have hml : (b, l') ∈ gtL.l := by
        unfold tabS at hs
        obtain ⟨l2, h1, h2⟩ := Option.map_eq_some_iff.1 hs
        cases h2
        exact gOf_mem h1
      obtain ⟨D, t', f', hh', _, hD⟩ := hT.blk b m' l' hs
      rw [hh] at hh'
      cases hh'
      refine ⟨tabS, hT, ⟨_, _, _, rfl, hc, hm, hl, (fun h => nomatch h), fun p hp => ?_⟩, hro⟩
      cases hp
      refine ⟨rfl, m', l', hs, fun i hi => ?_⟩
      rw [Nat.mul_one] at hi
      have h1 := hat i hi
      have hlt : off + i < l'.length := by rw [← hD.1]; exact (List.getElem?_eq_some_iff.1 h1).1
      have h2 : l'[off + i]? = some l'[off + i] := List.getElem?_eq_getElem _
      obtain ⟨v, h3, h4⟩ := hD.2 _ _ h2
      rw [h1] at h3
      cases h3
      have hk := gtL_int _ hml _ (List.mem_of_getElem? h2)
      dsimp only
      rw [h2]
      revert h4 hk
      generalize l'[off + i] = κ
      intro hk h4
      cases κ <;> first | (obtain ⟨n, e, _⟩ := hk; cases e; rfl) | cases h4
    | none =>
      obtain ⟨σ, hσ⟩ : ∃ σ : S, σ = fun k => if k = b then some (false, argK off X.length C.size) else tabS k := ⟨_, rfl⟩
      have hle : Le tabS σ := fun k x hk => by
        rw [hσ]
        dsimp only
        rw [if_neg (fun e => by rw [e, hs] at hk; cases hk)]
        exact hk
      have hbσ : σ b = some (false, argK off X.length C.size) := by rw [hσ]; exact if_pos rfl
      refine ⟨σ, ⟨fun g l hg => hle _ _ (hT.tab g l hg), fun g D hg => ?_, fun k m l hk => ?_⟩, ⟨_, _, _, rfl, hc, hm, hl, (fun h => nomatch h), fun p hp => ?_⟩, fun k l e => ?_⟩
      · obtain ⟨⟨l, h1⟩, h2⟩ := hT.fx g D hg
        exact ⟨⟨l, hle _ _ h1⟩, h2⟩
      · by_cases hkb : k = b
        · subst hkb
          rw [hbσ] at hk
          cases hk
          refine ⟨C, t, f, hh, (fun h => nomatch h), by simp [argK], fun i κ hi => ?_⟩
          obtain ⟨h1, h2⟩ := argK_get hi
          refine ⟨_, List.getElem?_eq_getElem (by simpa using h1), ?_⟩
          rw [h2]
          split
          · rename_i hr
            have := hat (i - off) (by omega)
            rw [show off + (i - off) = i by omega, List.getElem?_eq_getElem (by simpa using h1)] at this
            have e := Option.some.inj this
            rw [e]
            refine ⟨_, rfl, ?_, ?_⟩
            · show (0 : Int) ≤ _; omega
            · have := (X.getD (i - off) 0).toNat_lt; show _ ≤ (255 : Int); omega
          · trivial
        · rw [hσ] at hk
          dsimp only at hk
          rw [if_neg hkb] at hk
          obtain ⟨D, t', f', h1, h2, h3⟩ := hT.blk k m l hk
          exact ⟨D, t', f', h1, h2, h3.mono hle⟩
      · cases hp
        refine ⟨rfl, _, _, hbσ, fun i hi => ?_⟩
        rw [Nat.mul_one] at hi
        dsimp only
        have h1 := (List.getElem?_eq_some_iff.1 (hat i hi)).1
        rw [Array.length_toList] at h1
        unfold argK
        rw [List.getElem?_map, List.getElem?_range h1]
        exact congrArg some (if_pos (⟨by omega, by omega⟩ : off ≤ off + i ∧ off + i < off + X.length))
      · rw [hσ] at e
        dsimp only at e
        split at e
        · cases e
        · exact hro _ _ e
theorem Go1.ro {σ σ' : S} {w w' : World} (h : Go1 σ σ' w w') (hr : ∀ b l, σ b ≠ some (true, l)) : Below w.heap.size w w' :=
  ⟨h.os, h.tape, h.output, h.size, fun b hb => h.kept b hb (hr b)⟩
end Ab
namespace Stn
open Ref (RdL All32)
theorem chunk : ∀ (n : Nat) (bs : List UInt8), bs.length = n * 32 → ∃ L : List (List UInt8), All32 L ∧ L.flatten = bs ∧ L.length = n
  | 0, bs, h => ⟨[], (fun _ h => by cases h), (List.length_eq_zero_iff.1 (by omega)).symm, rfl⟩
  | n + 1, bs, h => by
    obtain ⟨L, h1, h2, h3⟩ := chunk n (bs.drop 32) (by rw [List.length_drop]; omega)
    refine ⟨bs.take 32 :: L, fun x hx => ?_, ?_, by rw [List.length_cons, h3]⟩
    · rcases List.mem_cons.1 hx with rfl | hx
      · rw [List.length_take]; omega
      · exact h1 x hx
    · rw [List.flatten_cons, h2, List.take_append_drop]
theorem OW_rdL {σ : Ab.S} {w : World} (hw : Ab.WT Ab.gtL σ w) {v : Value} {hi : Nat} (h : Ab.OW σ v (List.replicate 32 (.int .u8)) 0 hi) : ∃ q c L, v = .slice q (List.length L) c ∧ RdL w v L ∧ L.length ≤ hi := by
  rcases h with ⟨rfl, _⟩ | ⟨b, len, cap, l, rfl, h1, h2, h3, h4, hb, h5, h6⟩
  · exact ⟨none, 0, [], rfl, ⟨(fun _ h => by cases h), Rd.nil w 32⟩, Nat.zero_le _⟩
  · obtain ⟨C, t, f, hh, _, hC⟩ := hw.blk b true l hb
    rw [List.length_replicate] at h5 h6
    have hcl : cap * 32 = C.toList.length := by rw [hC.1, h5]
    have hle : len * 32 ≤ C.toList.length := by rw [← hcl]; exact Nat.mul_le_mul_right _ h3
    obtain ⟨bs, hbs⟩ := Ab.bys_of (σ := σ) (C := C.toList.take (len * 32)) (fun v hv => by
      obtain ⟨j, hj, rfl⟩ := List.mem_iff_getElem.1 hv
      have hj' : j < len * 32 := by rw [List.length_take] at hj; omega
      have h7 := h6 (j / 32) (j % 32) (.int .u8) (by omega) (by rw [List.getElem?_replicate, if_pos (Nat.mod_lt _ (by decide))])
      rw [Nat.div_add_mod' j 32] at h7
      obtain ⟨u, hu1, hu2⟩ := hC.2 _ _ h7
      have h8 : (C.toList.take (len * 32))[j]? = some u := by rw [List.getElem?_take, if_pos hj']; exact hu1
      rw [List.getElem?_eq_getElem hj] at h8
      cases h8
      exact hu2)
    have hbl : bs.length = len * 32 := by
      have := congrArg List.length hbs
      rw [bys_length, List.length_take] at this
      omega
    obtain ⟨L, a1, a2, a3⟩ := chunk len bs hbl
    subst a3
    refine ⟨_, cap, L, rfl, ⟨a1, by rw [a2, bys_length, hbl], .inr ⟨b, 0, cap, rfl, hw.lt hb, h3, h4, fun j u hj => ?_⟩⟩, h2⟩
    rw [Nat.zero_add, cell_of_row w b _ _ _ _ hh]
    rw [a2, ← hbs, List.getElem?_take] at hj
    split at hj
    · simpa using hj
    · cases hj
section
variable {A : Array Value} {ks : List Ab.K} {σ : Ab.S}
theorem CT_at (h : Ab.CT σ A.toList ks) {i : Nat} {κ : Ab.K} (hk : ks[i]? = some κ) : ∃ v, A[i]? = some v ∧ Ab.KT σ v κ := by
  obtain ⟨v, h1, h2⟩ := h.2 i κ hk
  exact ⟨v, by simpa using h1, h2⟩
theorem CT_part (h : Ab.CT σ A.toList ks) {o n : Nat} (hk : (ks.drop o).take n = List.replicate n Ab.B8) : ∃ l : List UInt8, l.length = n ∧ PartAt A o (bysA l) := by
  have hs := h.seg o n
  rw [hk] at hs
  obtain ⟨l, hl⟩ := Ab.bys_of (σ := σ) (C := (A.toList.drop o).take n) (fun v hv => by
    obtain ⟨i, hi, rfl⟩ := List.mem_iff_getElem.1 hv
    have hi' : i < n := by rw [List.length_take] at hi; omega
    obtain ⟨u, h1, h2⟩ := hs.2 i Ab.B8 (by rw [List.getElem?_replicate, if_pos hi'])
    rw [List.getElem?_eq_getElem hi] at h1
    cases h1
    exact h2)
  have hll : l.length = n := by
    have := hs.1
    rw [hl, bys_length, List.length_replicate] at this
    exact this
  refine ⟨l, hll, fun j v hv => ?_⟩
  have h1 : (bys l)[j]? = some v := by simpa [bysA] using hv
  rw [← hl, List.getElem?_take] at h1
  split at h1
  · rw [List.getElem?_drop] at h1; simpa using h1
  · cases h1
end
def cut (A : Array Value) (o n : Nat) : Array Value := A.extract o (o + n)
theorem cut_size {A : Array Value} {o n : Nat} (h : o + n ≤ A.size) : (cut A o n).size = n := by unfold cut; rw [Array.size_extract]; omega
theorem cut_get {A : Array Value} {o n i : Nat} (hi : i < n) : (cut A o n)[i]? = A[o + i]? := by
  unfold cut
  rw [Array.getElem?_extract]
  split
  · rfl
  · rename_i h
    rw [Array.getElem?_eq_none (by omega)]
theorem cut_part (A : Array Value) (o n : Nat) : PartAt A o (cut A o n) := fun j v hv => by
  have hj := (Array.getElem?_eq_some_iff.1 hv).1
  have : j < n := by unfold cut at hj; rw [Array.size_extract] at hj; omega
  rw [← cut_get this]
  exact hv
theorem PartAt.cut {A P : Array Value} {o o' n : Nat} (h : PartAt A (o + o') P) (hn : o' + P.size ≤ n) : PartAt (cut A o n) o' P := fun j v hv => by
  have hj := (Array.getElem?_eq_some_iff.1 hv).1
  rw [cut_get (by omega), ← Nat.add_assoc]
  exact h j v hv
theorem PartAt.app {A P Q : Array Value} {o : Nat} (h : PartAt A o P) (h' : PartAt A (o + P.size) Q) : PartAt A o (P ++ Q) := fun j v hv => by
  rw [Array.getElem?_append] at hv
  split at hv
  · exact h j v hv
  · have := h' _ v hv
    rwa [show o + P.size + (j - P.size) = o + j by omega] at this
theorem PartAt.one {A : Array Value} {o : Nat} {v : Value} (h : A[o]? = some v) : PartAt A o #[v] := fun j u hu => by
  have hj := (Array.getElem?_eq_some_iff.1 hu).1
  obtain rfl : j = 0 := by simp at hj; omega
  cases hu
  exact h
def AnsOk (w : World) (A : Array Value) : Prop := A.all (·.oneCell') = true ∧ ∃ M U : Array Value, AnsIs w A M U ∧ (∃ qi ci id gone nm link, MemIs w M qi ci id gone nm link) ∧ ∃ C qs cs S there key val n root sg log ql cl L, UndIs w U C qs cs S there key val n root sg log ql cl L
theorem AnsOk.below {w w' : World} {A : Array Value} (h : AnsOk w A) (hb : Below w.heap.size w w') : AnsOk w' A := by
  obtain ⟨h0, M, U, h1, ⟨qi, ci, id, gone, nm, link, h2⟩, C, qs, cs, S, there, key, val, n, root, sg, log, ql, cl, L, h3⟩ := h
  exact ⟨h0, M, U, ⟨h1.size, h1.kind, h1.err, h1.memP, h1.undP⟩, ⟨qi, ci, id, gone, nm, link, h2.below hb⟩, C, qs, cs, S, there, key, val, n, root, sg, log, ql, cl, L, h3.below hb⟩
theorem AnsOk.size {w : World} {A : Array Value} (h : AnsOk w A) : A.size = 646 := by
  obtain ⟨_, M, U, h1, _⟩ := h
  exact h1.size
theorem ans_open {σ : Ab.S} {w : World} (hw : Ab.WT Ab.gtL σ w) {A : Array Value} (h : Ab.CT σ A.toList Ab.answerK) : AnsOk w A := by
  have hs : A.size = 646 := by
    have := h.1
    rw [Array.length_toList] at this
    exact this.trans (by decide +kernel)
  obtain ⟨v0, e0, n0, rfl, _⟩ := CT_at h (i := 0) (κ := .int .i64) (by kernel_rfl)
  obtain ⟨v1, e1, n1, rfl, _⟩ := CT_at h (i := 1) (κ := .int .i64) (by kernel_rfl)
  -- the member
  obtain ⟨vi, ei, hvi⟩ := CT_at h (i := 577) (κ := .sl 1) (by kernel_rfl)
  obtain ⟨qi, ci, id, rfl, hid, _, hidl⟩ := Ab.SS.rd (c := Ab.cx []) hw (Ab.SL.ss hvi)
  obtain ⟨_, eg, gone, rfl⟩ := CT_at h (i := 578) (κ := .bool) (by kernel_rfl)
  obtain ⟨_, em, nm, rfl, hm1, hm2⟩ := CT_at h (i := 579) (κ := .int .i64) (by kernel_rfl)
  obtain ⟨link, hll, hlp⟩ := CT_part h (o := 580) (n := 32) (by kernel_rfl)
  -- what it stands under
  obtain ⟨vs, es, hvs⟩ := CT_at h (i := 379) (κ := .ow 32 256) (by kernel_rfl)
  obtain ⟨qs, cs, S, rfl, hSr, hSl⟩ := OW_rdL hw hvs
  obtain ⟨_, et, there, rfl⟩ := CT_at h (i := 380) (κ := .bool) (by kernel_rfl)
  obtain ⟨key, hkl, hkp⟩ := CT_part h (o := 381) (n := 32) (by kernel_rfl)
  obtain ⟨val, hvl, hvp⟩ := CT_part h (o := 413) (n := 32) (by kernel_rfl)
  obtain ⟨_, en, n, rfl, hn1, hn2⟩ := CT_at h (i := 445) (κ := .int .i64) (by kernel_rfl)
  obtain ⟨root, hrl, hrp⟩ := CT_part h (o := 446) (n := 32) (by kernel_rfl)
  obtain ⟨sg, hsl, hsp⟩ := CT_part h (o := 478) (n := 64) (by kernel_rfl)
  obtain ⟨log, hgl, hgp⟩ := CT_part h (o := 542) (n := 32) (by kernel_rfl)
  obtain ⟨vl, el, hvl2⟩ := CT_at h (i := 574) (κ := .ow 32 256) (by kernel_rfl)
  obtain ⟨ql, cl, L, rfl, hLr, hLl⟩ := OW_rdL hw hvl2
  have hU : (cut A 379 196).size = 196 := cut_size (by omega)
  have hM : (cut A 577 35).size = 35 := cut_size (by omega)
  have hP : (cut (cut A 379 196) 0 66).size = 66 := cut_size (by omega)
  refine ⟨h.all1, cut A 577 35, cut A 379 196, ⟨hs, ⟨n0, e0⟩, ⟨n1, e1⟩, cut_part _ _ _, cut_part _ _ _⟩, ⟨qi, ci, id, gone, nm, link, ⟨hM, (cut_get (by decide)).trans ei, (cut_get (by decide)).trans eg, (cut_get (by decide)).trans em, PartAt.cut hlp (by rw [bysA_size]; omega), hll, hm1, hm2, hid, hidl⟩⟩,
    cut (cut A 379 196) 0 66, qs, cs, S, there, key, val, n, root, sg, log, ql, cl, L, ⟨hU, ⟨hP, (cut_get (by decide)).trans ((cut_get (by decide)).trans es), (cut_get (by decide)).trans ((cut_get (by decide)).trans et), PartAt.cut (PartAt.cut hkp (by rw [bysA_size]; omega)) (by rw [bysA_size]; omega), PartAt.cut (PartAt.cut hvp (by rw [bysA_size]; omega)) (by rw [bysA_size]; omega), hkl, hvl, hSr, hSl⟩, cut_part _ _ _, ?_, hrl, hsl, hn1, hn2, PartAt.cut hgp (by rw [bysA_size]; omega), hgl, (cut_get (by decide)).trans el, hLr⟩⟩
  refine PartAt.cut ?_ (by rw [signedA_size hrl hsl]; omega)
  unfold signedA
  refine PartAt.app (PartAt.app (PartAt.one en) hrp) ?_
  rw [Array.size_append, bysA_size, hrl]
  exact hsp
end Stn
end Go.Proofs.YtmonkggoilhngaaGreatDoor
/- Arguments opened: two slices of bytes in an array; the tables of the program. -/
namespace Go.Proofs.YtmonkggoilhngaaGreatDoor
open Go.ChangeShapes Go.WideShapes Go.ChangeAt Go.RowKit Mem Sha
namespace Wrap
section
variable {H : Type} {enc : TypeId × Value → H} {W : World} {base : Nat}
set_option maxRecDepth 100000 in
theorem trod_arrE {P : Program} {n fuel : Nat} {t e : TypeId} {cs : List Value} {x : DataW H × List MemPlace} (ht : P.underlying t = some (.array n e)) (h : DataW.trod enc P W 0 (fun _ => true) true fuel t cs = some x) :
    cs.length = P.cellsOf t ∧ ∃ k, ∀ i, i < n → ∃ y, DataW.trod enc P W 0 (fun _ => true) true k e ((cs.drop (i * P.cellsOf e)).take (P.cellsOf e)) = some y := by
  cases fuel with
  | zero => simp [DataW.trod] at h
  | succ k =>
    unfold DataW.trod at h
    rw [ht] at h
    split at h <;> simp_all
    obtain ⟨_, xs, hxs, _⟩ := h
    refine ⟨k, fun i hi => ?_⟩
    have h1 := mapM_some_length hxs
    rw [List.length_range] at h1
    have := mapM_some_get hxs i i (by simp [hi])
    rw [List.getElem?_eq_getElem (by omega)] at this
    exact ⟨_, _, this⟩
set_option maxRecDepth 100000 in
theorem cellsAt_ok {q : Option Addr} {n c : Nat} (hv : Value.okWide Tryz.prog W .any base 23 (.slice q n c)) : Ab.CellsAt W q := by
  intro a ha
  subst ha
  unfold Value.okWide at hv
  rw [Tryz.underlying23] at hv
  simp only [Cell.okWide, Tryz.underlying23, Cell.ok] at hv
  obtain ⟨_, _, _, h1, row, cells, h2, _⟩ := hv
  unfold World.shape? at h2
  split at h2
  · rename_i C t f hh
    exact ⟨C, t, f, hh⟩
  · cases h2
set_option maxRecDepth 100000 in
theorem cells_one {u : Value} (hv : Value.okWide Tryz.prog W .any base 23 u) : u.cells.toList = [u] := by
  unfold Value.okWide at hv
  rw [Tryz.underlying23] at hv
  simp only [Cell.okWide, Tryz.underlying23, Cell.ok] at hv
  cases u <;> first | rfl | exact absurd hv (by simp)
set_option maxRecDepth 100000 in
theorem types2 : Tryz.prog.cellTypes Tryz.prog.depth 24 = some [23, 23] := by kernel_rfl
set_option maxRecDepth 100000 in
theorem open_two {v : Value} {d : DataW H} {p : List MemPlace} (hv : Value.okWide Tryz.prog W .any base 24 v) (h : DataW.Trod enc Tryz.prog W 0 (fun _ => true) true 24 v d p) :
    ∃ q0 c0 X q1 c1 Y, v = .agg #[.slice q0 (List.length X) c0, .slice q1 (List.length Y) c1] ∧ Rd W 1 (.slice q0 X.length c0) X.length (bys X) ∧ Rd W 1 (.slice q1 Y.length c1) Y.length (bys Y) ∧ Ab.CellsAt W q0 ∧ Ab.CellsAt W q1 := by
  unfold Value.okWide at hv
  rw [Tryz.underlying24] at hv
  obtain ⟨cs, rfl, hsz, ts, hts, _, hc⟩ := hv
  obtain rfl := Option.some.inj (types2.symm.trans hts)
  have h2 : cs.size = 2 := hsz.trans (by kernel_rfl)
  obtain ⟨u0, u1, rfl⟩ : ∃ u0 u1, cs = #[u0, u1] := by
    obtain ⟨l⟩ := cs
    match l, h2 with
    | [a, b], _ => exact ⟨a, b, rfl⟩
  have ok : ∀ u, Cell.okWide Tryz.prog W .any base 23 u → Value.okWide Tryz.prog W .any base 23 u := fun u hu => by
    unfold Value.okWide
    rw [Tryz.underlying23]
    exact hu
  obtain ⟨t0, e0, k0⟩ := hc 0 u0 rfl
  obtain ⟨t1, e1, k1⟩ := hc 1 u1 rfl
  cases e0
  cases e1
  have o0 := ok u0 k0
  have o1 := ok u1 k1
  obtain ⟨fuel, h⟩ := h
  obtain ⟨_, k, hk⟩ := trod_arrE Tryz.underlying24 h
  rw [cellsSl] at hk
  obtain ⟨⟨d0, p0⟩, y0⟩ := hk 0 (by decide)
  obtain ⟨⟨d1, p1⟩, y1⟩ := hk 1 (by decide)
  have y0 : DataW.trod enc Tryz.prog W 0 (fun _ => true) true k 23 [u0] = some (d0, p0) := y0
  have y1 : DataW.trod enc Tryz.prog W 0 (fun _ => true) true k 23 [u1] = some (d1, p1) := y1
  obtain ⟨q0, c0, X, rfl, hx⟩ := open_bytes o0 ⟨k, by rw [cells_one o0]; exact y0⟩
  obtain ⟨q1, c1, Y, rfl, hy⟩ := open_bytes o1 ⟨k, by rw [cells_one o1]; exact y1⟩
  exact ⟨q0, c0, X, q1, c1, Y, rfl, hx, hy, cellsAt_ok o0, cellsAt_ok o1⟩
end
def zsOf : DataW Unit → List Int
  | .agg l => l.map fun x => match x with | .lit (.int _ n) => n | _ => 0
  | _ => []
set_option maxRecDepth 100000 in
theorem wt_of {W : World} (h : ∀ x ∈ Ab.gtL.l, ∃ C t f, W.heap[x.1]? = some (.cells C t f) ∧ Ab.ksB C.toList x.2 = true) (hm : ∃ t f, W.heap[(8 : Nat)]? = some (.cells Ab.mod4 t f)) : Ab.WT Ab.gtL Ab.tabS W := by
  refine ⟨fun g l hg => by unfold Ab.tabS; rw [Ab.tabS_mem (g, l) hg]; rfl, fun g C hg => ?_, fun b m l hb => ?_⟩
  · simp only [Ab.gtL, List.mem_singleton, Prod.mk.injEq] at hg
    obtain ⟨rfl, rfl⟩ := hg
    exact ⟨⟨Ab.w4, by unfold Ab.tabS; rw [Ab.tabS_mem (8, Ab.w4) (by simp [Ab.gtL])]; rfl⟩, hm⟩
  · unfold Ab.tabS at hb
    obtain ⟨l', h1, h2⟩ := Option.map_eq_some_iff.1 hb
    cases h2
    obtain ⟨C, t, f, h3, h4⟩ := h _ (Ab.gOf_mem h1)
    exact ⟨C, t, f, h3, (fun h => nomatch h), (Ab.ksB_ok h4).mono (fun b x hb => by simp [Ab.nil0] at hb)⟩
set_option maxRecDepth 100000 in
theorem std_tabs {W : World} {laid : List (String × DataW Unit)} (h : laidMet Tryz.prog laid W) (h1 : ("custumal/field.modulus", Rows.laid_custumal_field_modulus) ∈ laid) (h2 : ("custumal/field.imaginary", Rows.laid_custumal_field_imaginary) ∈ laid) (h3 : ("custumal/scalar.order", Rows.laid_custumal_scalar_order) ∈ laid) (h4 : ("custumal/edwards.baseX", Rows.laid_custumal_edwards_baseX) ∈ laid) (h5 : ("custumal/edwards.baseY", Rows.laid_custumal_edwards_baseY) ∈ laid) (h6 : ("custumal/edwards.double", Rows.laid_custumal_edwards_double) ∈ laid) (h7 : ("custumal/edwards.curve", Rows.laid_custumal_edwards_curve) ∈ laid) (h8 : ("custumal/sha5.start", Rows.laid_custumal_sha5_start) ∈ laid) (h9 : ("custumal/sha5.rounds", Rows.laid_custumal_sha5_rounds) ∈ laid) : Ab.WT Ab.gtL Ab.tabS W := by
  obtain ⟨t1, f1, r1⟩ := tab_row (k := .u64) (zs := zsOf Rows.laid_custumal_field_modulus) (g := 8) (t := 134) (e := 112) (n := 4) (by kernel_rfl) (by kernel_rfl) (by kernel_rfl) (by kernel_rfl) (by kernel_rfl) (by kernel_rfl) h (by exact h1)
  obtain ⟨t2, f2, r2⟩ := tab_row (k := .u64) (zs := zsOf Rows.laid_custumal_field_imaginary) (g := 9) (t := 134) (e := 112) (n := 4) (by kernel_rfl) (by kernel_rfl) (by kernel_rfl) (by kernel_rfl) (by kernel_rfl) (by kernel_rfl) h (by exact h2)
  obtain ⟨t3, f3, r3⟩ := tab_row (k := .u64) (zs := zsOf Rows.laid_custumal_scalar_order) (g := 5) (t := 139) (e := 112) (n := 4) (by kernel_rfl) (by kernel_rfl) (by kernel_rfl) (by kernel_rfl) (by kernel_rfl) (by kernel_rfl) h (by exact h3)
  obtain ⟨t4, f4, r4⟩ := tab_row (k := .u64) (zs := zsOf Rows.laid_custumal_edwards_baseX) (g := 2) (t := 134) (e := 112) (n := 4) (by kernel_rfl) (by kernel_rfl) (by kernel_rfl) (by kernel_rfl) (by kernel_rfl) (by kernel_rfl) h (by exact h4)
  obtain ⟨t5, f5, r5⟩ := tab_row (k := .u64) (zs := zsOf Rows.laid_custumal_edwards_baseY) (g := 3) (t := 134) (e := 112) (n := 4) (by kernel_rfl) (by kernel_rfl) (by kernel_rfl) (by kernel_rfl) (by kernel_rfl) (by kernel_rfl) h (by exact h5)
  obtain ⟨t6, f6, r6⟩ := tab_row (k := .u64) (zs := zsOf Rows.laid_custumal_edwards_double) (g := 4) (t := 134) (e := 112) (n := 4) (by kernel_rfl) (by kernel_rfl) (by kernel_rfl) (by kernel_rfl) (by kernel_rfl) (by kernel_rfl) h (by exact h6)
  obtain ⟨t7, f7, r7⟩ := tab_row (k := .u64) (zs := zsOf Rows.laid_custumal_edwards_curve) (g := 6) (t := 134) (e := 112) (n := 4) (by kernel_rfl) (by kernel_rfl) (by kernel_rfl) (by kernel_rfl) (by kernel_rfl) (by kernel_rfl) h (by exact h7)
  obtain ⟨t8, f8, r8⟩ := tab_row (k := .u64) (zs := zsOf Rows.laid_custumal_sha5_start) (g := 7) (t := 183) (e := 112) (n := 8) (by kernel_rfl) (by kernel_rfl) (by kernel_rfl) (by kernel_rfl) (by kernel_rfl) (by kernel_rfl) h (by exact h8)
  obtain ⟨t9, f9, r9⟩ := tab_row (k := .u64) (zs := zsOf Rows.laid_custumal_sha5_rounds) (g := 10) (t := 197) (e := 112) (n := 80) (by kernel_rfl) (by kernel_rfl) (by kernel_rfl) (by kernel_rfl) (by kernel_rfl) (by kernel_rfl) h (by exact h9)
  refine wt_of (fun x hx => ?_) ⟨t1, f1, r1⟩
  simp only [Ab.gtL, List.mem_cons, List.not_mem_nil, or_false] at hx
  rcases hx with rfl | rfl | rfl | rfl | rfl | rfl | rfl | rfl | rfl
  · exact ⟨_, t1, f1, r1, by kernel_rfl⟩
  · exact ⟨_, t2, f2, r2, by kernel_rfl⟩
  · exact ⟨_, t3, f3, r3, by kernel_rfl⟩
  · exact ⟨_, t4, f4, r4, by kernel_rfl⟩
  · exact ⟨_, t5, f5, r5, by kernel_rfl⟩
  · exact ⟨_, t6, f6, r6, by kernel_rfl⟩
  · exact ⟨_, t7, f7, r7, by kernel_rfl⟩
  · exact ⟨_, t8, f8, r8, by kernel_rfl⟩
  · exact ⟨_, t9, f9, r9, by kernel_rfl⟩
end Wrap
end Go.Proofs.YtmonkggoilhngaaGreatDoor

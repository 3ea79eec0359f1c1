/- Two arrays of 32 bytes held against each other; a guarded operation that runs. -/
import Derived.Test.YtmonkggoilhngaaGreatDoorGFew
import Derived.Test.YtmonkggoilhngaaGreatDoorAbS
import Derived.Laws.StructEq
import Derived.Stop.BytesEq
namespace Go.Proofs.YtmonkggoilhngaaGreatDoor
open Go.RowKit Bits Mem Sha
namespace Ref
theorem size_u8 (w : World) : (sizeOf 5).run Tryz.prog w = .ok 1 w := by
  obtain ⟨i0, h1, h2⟩ : ∃ i0, Tryz.prog.info? 5 = some i0 ∧ i0.size = 1 := by
    have : (Tryz.prog.info? 5).map (·.size) = some 1 := by kernel_rfl
    obtain ⟨i0, h1, h2⟩ := Option.map_eq_some_iff.1 this
    exact ⟨i0, h1, h2⟩
  simp [sizeOf, typeInfo, h1, h2]
theorem guard32 : Tryz.prog.eqGuardType Tryz.prog.depth 22 = false := by kernel_rfl
@[go_sem] theorem run_guard32 (op : BinOp) (x y : Operand) (xs ys : Array Value) (w : World) : (eqGuard op 22 x y (.agg xs) (.agg ys)).run Tryz.prog w = .ok () w := run_eqGuard_agg (P := Tryz.prog) w op 22 x y xs ys guard32
@[go_sem] theorem run_equal32 (a b : List UInt8) (w : World) (ha : a.length = 32) (hb : b.length = 32) : (Op.equalIn 10000 22 (.agg (bysA a)) (.agg (bysA b))).run Tryz.prog w = .ok (a == b) w :=
  run_equalIn_bytes (P := Tryz.prog) w 9998 22 5 32 Tryz.underlying22 Tryz.underlying5 size_u8 a b ha hb
theorem unguard16 {P : Program} {ops : Array Oper} {rest : List Oper} {o : Oper} {a : Act} {w : World} {Q : Exit → Act → World → Prop} (hw : Region.wanted o (yielded ops a.tmps) = true)
    (h : wpList P ops Q ({ o with guard := none } :: rest) a w) : wpList P ops Q (o :: rest) a w := by
  cases o
  unfold wpList at h ⊢
  rw [if_pos hw]
  split at h
  · exact h
  · rename_i h'; exact absurd rfl h'
theorem setRow_other (w : World) {g g' : Nat} (c : Array Value) (h : g ≠ g') : (w.setRow g c).heap[g']? = w.heap[g']? := by
  unfold World.setRow
  exact (Array.getElem?_modify ..).trans (if_neg h)
theorem two_cells {w : World} {g : Nat} {a b : Value} {t : TypeId} (hg : w.heap[g]? = some (.cells #[a, b] t (0, 0))) :
    w.cell? ⟨g, 0, none⟩ = some a ∧ w.cell? ⟨g, 1, none⟩ = some b ∧ w.frozen? ⟨g, 0, none⟩ = false ∧ w.frozen? ⟨g, 1, none⟩ = false :=
  ⟨(cell_of_row _ _ _ _ _ _ hg).trans rfl, (cell_of_row _ _ _ _ _ _ hg).trans rfl, by simp [World.frozen?, hg], by simp [World.frozen?, hg]⟩
theorem two_stored {w : World} {g : Nat} {a b a' b' : Value} {t : TypeId} (hg : w.heap[g]? = some (.cells #[a, b] t (0, 0))) : (w.setCell ⟨g, 0, none⟩ a').setCell ⟨g, 1, none⟩ b' = w.setRow g #[a', b'] := by
  rw [setCell_eq_setRow w g 0 _ _ _ _ hg, setCell_eq_setRow _ g 1 _ _ _ _ (setRow_heap w g _ _ _ _ hg), Rg.setRow_setRow]
  rfl
end Ref
end Go.Proofs.YtmonkggoilhngaaGreatDoor
/- A proof, held against a root: what it tells. Conditions: none beyond the bounds of bytes. -/
namespace Go.Proofs.YtmonkggoilhngaaGreatDoor
open Go.RowKit Bits Mem Sha
namespace Stn
open Ref (RdL All32)
theorem guardK : Tryz.prog.eqGuardType Tryz.prog.depth 28 = false := by kernel_rfl
@[go_sem] theorem run_guardK (op : BinOp) (x y : Operand) (xs ys : Array Value) (w : World) : (eqGuard op 28 x y (.agg xs) (.agg ys)).run Tryz.prog w = .ok () w := run_eqGuard_agg (P := Tryz.prog) w op 28 x y xs ys guardK
@[go_sem] theorem run_equalK (a b : List UInt8) (w : World) (ha : a.length = 32) (hb : b.length = 32) : (Op.equalIn 10000 28 (.agg (bysA a)) (.agg (bysA b))).run Tryz.prog w = .ok (a == b) w :=
  run_equalIn_bytes (P := Tryz.prog) w 9998 28 5 32 Tryz.underlying28 Tryz.underlying5 Ref.size_u8 a b ha hb
def chkP (k : List UInt8) (there : Bool) (key val : List UInt8) (S : List (List UInt8)) (root v : List UInt8) (t : Bool) (z : Int) : Prop :=
  v.length = 32 ∧ (z = 0 ∨ z = 17) ∧ (z = 0 → S.length ≤ 256 ∧ sha (topT (bit k) S (endT there key val)) = root ∧ t = (there && (key == k)) ∧ (t = true → v = val))
theorem wayT_last (bit : Nat → Bool) (S : List (List UInt8)) (E : List UInt8) : (wayT bit S E).getD S.length [] = topT bit S E := by
  show (Up.climb bit (sumAt S) S.length E).getD S.length [] = Up.top bit (sumAt S) S.length E
  rw [← upto_all, upto_last, upto_top bit (sumAt S) S.length E S.length (Nat.le_refl _), Nat.sub_self]
  rfl
theorem wayT_length (bit : Nat → Bool) (S : List (List UInt8)) (E : List UInt8) : (wayT bit S E).length = S.length + 1 := by
  show (Up.climb bit (sumAt S) S.length E).length = _
  rw [← upto_all, upto_length]
theorem wayT_short (bit : Nat → Bool) (S : List (List UInt8)) (E : List UInt8) (hE : E.length ≤ 65) (hS : All32 S) : ∀ t ∈ wayT bit S E, t.length ≤ 67 := by
  intro t ht
  have ht' : t ∈ Up.climb bit (sumAt S) S.length E := ht
  rw [← upto_all] at ht'
  exact upto_short bit (sumAt S) S.length E hE (fun d => sumAt_length hS d) S.length t ht'
theorem results_cell_two {P : Program} {fn : Func} {p q r : Tmp} {ty : TypeId} (h : fn.results = #[.cell p ty, .tmp q, .tmp r]) (tmps : Array Value) (w : World) (g : Nat) (t : TypeId) (cs : Array Value) (fr : Nat × Nat) (d : TypeDesc) (v u : Value)
    (hp : tmps.getD p undef = .pointer (some ⟨g, 0, none⟩)) (hg : w.heap[g]? = some (.cells cs t fr)) (hq : tmps.getD q undef = v) (hr : tmps.getD r undef = u)
    (hu : P.underlying ty = some d) (hd : (match d with | .struct _ | .array _ _ => true | _ => false) = true) (hi : (P.info? ty).map (·.size) = some cs.size) :
    (results fn tmps).run P w = .ok (.tuple #[.agg cs, v, u]) w := by
  have hp' : tmps[p]?.getD undef = .pointer (some ⟨g, 0, none⟩) := by simpa using hp
  have hq' : tmps[q]?.getD undef = v := by simpa using hq
  have hr' : tmps[r]?.getD undef = u := by simpa using hr
  simp [results, h, hp', hq', hr', asAddr, run_loadVar_row w g t ty cs fr d hg hu hd hi]
theorem z32S : (#[.int .u8 0, .int .u8 0, .int .u8 0, .int .u8 0, .int .u8 0, .int .u8 0, .int .u8 0, .int .u8 0, .int .u8 0, .int .u8 0, .int .u8 0, .int .u8 0, .int .u8 0, .int .u8 0, .int .u8 0, .int .u8 0, .int .u8 0, .int .u8 0, .int .u8 0, .int .u8 0, .int .u8 0, .int .u8 0, .int .u8 0, .int .u8 0, .int .u8 0, .int .u8 0, .int .u8 0, .int .u8 0, .int .u8 0, .int .u8 0, .int .u8 0, .int .u8 0] : Array Value) = bysA zeros32 := by kernel_rfl
theorem info32n : (Tryz.prog.info? 22).map (·.size) = some (bysA zeros32).size := by kernel_rfl
set_option maxRecDepth 100000 in
set_option maxHeartbeats 4000000 in
theorem pcheck_any (root k : List UInt8) (C : Array Value) (there : Bool) (key val : List UInt8) (qs : Option Addr) (cs : Nat) (S : List (List UInt8)) (w : World) (hT : Ab.WT Ab.gtL Ab.tabS w) (hS : Sha.Tabs w) (hrl : root.length = 32) (hkl : k.length = 32) (hCs : C.size = 66) (h0 : C[0]? = some (.slice qs S.length cs)) (h1 : C[1]? = some (.bool there)) (hkp : PartAt C 2 (bysA key)) (hvp : PartAt C 34 (bysA val)) (hk : key.length = 32) (hv : val.length = 32)
    (hSd : RdL w (.slice qs S.length cs) S) (hSl : S.length ≤ 256) :
    Calls Tryz.prog 45 #[.agg (bysA root), .agg (bysA k), .agg C] w fun e w' => ∃ v t z, e = .returned (.tuple #[.agg (bysA v), .bool t, .int .i64 z]) ∧ chkP k there key val S root v t z ∧ Below w.heap.size w w' := by
  obtain ⟨w1, hw1⟩ : ∃ w1, w1 = ((((w.alloc (.cells (bysA root) 22)).alloc (.cells (bysA k) 28)).alloc (.cells C 32)).alloc (.cells (bysA zeros32) 22)) := ⟨_, rfl⟩
  go_enter Tryz.func45, Tryz.ntmps45
  go_upto_region 1 with fail
  rw [z32S, ← hw1]
  have hb1 : Below w.heap.size w w1 := by rw [hw1]; exact ((((Below.refl _ _).alloc (Nat.le_refl _) _).alloc (by simp) _).alloc (by simp; try omega) _).alloc (by simp; try omega) _
  have hr0 : w1.heap[w.heap.size]? = some (.cells (bysA root) 22 (0, 0)) := by rw [hw1]; exact (Rg.heap_alloc_past _ _ _ (by simp; try omega)).trans ((Rg.heap_alloc_past _ _ _ (by simp; try omega)).trans ((Rg.heap_alloc_past _ _ _ (by simp)).trans (Rg.heap_alloc_at w _ _ rfl)))
  have hr1 : w1.heap[w.heap.size + 1]? = some (.cells (bysA k) 28 (0, 0)) := by rw [hw1]; exact (Rg.heap_alloc_past _ _ _ (by simp; try omega)).trans ((Rg.heap_alloc_past _ _ _ (by simp)).trans (Rg.heap_alloc_at _ _ _ (by simp)))
  have hr2 : w1.heap[w.heap.size + 1 + 1]? = some (.cells C 32 (0, 0)) := by rw [hw1]; exact (Rg.heap_alloc_past _ _ _ (by simp)).trans (Rg.heap_alloc_at _ _ _ (by simp))
  have hr3 : w1.heap[w.heap.size + 1 + 1 + 1]? = some (.cells (bysA zeros32) 22 (0, 0)) := by rw [hw1]; exact Rg.heap_alloc_at _ _ _ (by simp)
  have c0 : w1.cell? ⟨w.heap.size + 1 + 1, 0, none⟩ = some (.slice qs S.length cs) := (cell_of_row _ _ _ _ _ _ hr2).trans h0
  have c1 : w1.cell? ⟨w.heap.size + 1 + 1, 1, none⟩ = some (.bool there) := (cell_of_row _ _ _ _ _ _ hr2).trans h1
  have HB1 := Lib.hid hb1
  have HR0 := Lib.hid hr0
  have HR1 := Lib.hid hr1
  have HR2 := Lib.hid hr2
  have HR3 := Lib.hid hr3
  have HT1 := Lib.hid (hT.past hb1)
  have HS1 := Lib.hid (hS.below hb1)
  have HSD := Lib.hid (hSd.below hb1)
  have HRL := Lib.hid hrl
  have HKL := Lib.hid hkl
  have HCS := Lib.hid hCs
  have H0 := Lib.hid h0
  have H1 := Lib.hid h1
  have HKP := Lib.hid hkp
  have HVP := Lib.hid hvp
  have HK := Lib.hid hk
  have HV := Lib.hid hv
  have HSN := Lib.hid hSd
  have h256 : decide ((256 : Int) < (S.length : Int)) = false := by simp; omega
  have HIK := Lib.hid (Fnd.infoKey k hkl)
  have HIY := Lib.hid (Fnd.infoKey key hk)
  clear hw1 hb1 hr0 hr1 hr2 hr3 hT hS hrl hkl hCs h0 h1 hkp hvp hk hv hSd
  cases there with
  | false =>
    obtain ⟨wc, hwc⟩ : ∃ wc, wc = w1 := ⟨_, rfl⟩
    have HBC : Hid (Below w1.heap.size w1 wc) := Lib.hid (by rw [hwc]; exact Below.refl _ _)
    go_upto_region 3 with fail
    rw [← hwc]
    clear hwc c0 c1
    have HLK3 : Hid ((Instr.loadAt 28 (.pointer (some ⟨w.heap.size + 1, 0, none⟩))).run Tryz.prog wc = .ok (.agg (bysA k)) wc) := Lib.hid ((PartAt.self _).load (Rp.row_le HBC.out HR1.out) Tryz.underlying28 rfl HIK.out)
    have HLP3 : Hid ((Instr.loadAt 32 (.pointer (some ⟨w.heap.size + 1 + 1, 0, none⟩))).run Tryz.prog wc = .ok (.agg C) wc) := Lib.hid ((PartAt.self _).load (Rp.row_le HBC.out HR2.out) Tryz.underlying32 rfl (by rw [HCS.out]; exact Fnd.infoProof))
    go_wp2_with (first | (refine l_load rfl _ _ rfl _ HLK3.out ?_) | (refine l_load rfl _ _ rfl _ HLP3.out ?_))
    refine (waytexts_any k C false key val qs cs S wc (HS1.out.below HBC.out) HKL.out HCS.out H0.out H1.out HKP.out HVP.out HK.out HV.out (HSD.out.below HBC.out) hSl).mono ?_
    rintro e wt ⟨qt, ct, rfl, htx, hbt⟩
    have hwl := wayT_length (bit k) S (endT false key val)
    have hsh := wayT_short (bit k) S (endT false key val) (endT_le false key val HK.out HV.out) HSN.out.1
    have hla := wayT_last (bit k) S (endT false key val)
    obtain ⟨W, hW⟩ : ∃ W, W = wayT (bit k) S (endT false key val) := ⟨_, rfl⟩
    rw [← hW] at htx hwl hsh hla ⊢
    have HBT := Lib.hid (HBC.out.trans (hbt.mono HBC.out.size))
    have HTX := Lib.hid htx.parts
    have HWL := Lib.hid hwl
    have HSH := Lib.hid hsh
    have HLA := Lib.hid hla
    rw [hwl]
    clear hbt htx hwl hsh hla hW HLK3 HLP3
    obtain ⟨vs, hrd, hvs⟩ := HTX.out
    rw [HWL.out] at hrd hvs
    obtain ⟨ql, cl, hvl, hol⟩ := hvs S.length (by omega)
    rw [HLA.out] at hvl hol
    have hMs : (topT (bit k) S (endT false key val)).length ≤ 67 := HSH.out _ (by
      rw [← HLA.out, List.getD_eq_getElem?_getD, List.getElem?_eq_getElem (by rw [HWL.out]; omega)]
      exact List.getElem_mem _)
    obtain ⟨M, hM⟩ : ∃ M, M = topT (bit k) S (endT false key val) := ⟨_, rfl⟩
    rw [← hM] at hvl hol hMs
    obtain ⟨bq, oq, rfl, hbq, hnc, hcm, hcell⟩ := Rd_lt hrd (by omega)
    have hc5 := hcell _ _ hvl
    have HC5 := Lib.hid hc5
    have HOL := Lib.hid hol
    have HM := Lib.hid hM
    have HMR := Lib.hid (sha_length M)
    obtain ⟨R, hR⟩ : ∃ R, R = sha M := ⟨_, rfl⟩
    rw [← hR] at HMR
    have HRE := Lib.hid hR
    have HST := Lib.hid (HS1.out.below HBT.out)
    have HR0T := Lib.hid (Rp.row_le HBT.out HR0.out)
    have HR1T := Lib.hid (Rp.row_le HBT.out HR1.out)
    have HR2T := Lib.hid (Rp.row_le HBT.out HR2.out)
    have HR3T := Lib.hid (Rp.row_le HBT.out HR3.out)
    have HIRo := Lib.hid (info32r root HRL.out)
    have hSl2 : (S.length : Int) < (S.length : Int) + 1 := by omega
    have hlR : R.length = 32 := HMR.out
    obtain ⟨b0, hb0⟩ : ∃ b, (R == root) = b := ⟨_, rfl⟩
    have HB00 := Lib.hid hb0
    have hlRo : root.length = 32 := HRL.out
    clear hrd hvs hvl hol hM hcell hc5 hR hcm
    go_upto_region 4 with fail
    refine Rc.region (wt.heap.size) 10 [Rc.F 6 (fun p => .slice p.q 1 1) (fun p _ y => Rd y 1 (.slice p.q 1 1) 1 [.slice ql M.length cl]), Rc.G 7 [6] (fun _ => .agg (bysA R)) (fun _ _ _ => True)] [] (by kernel_rfl) (Nat.le_refl _) (by kernel_rfl) ?_; intro p; simp only [List.take, List.drop]
    iterate 5 (refine Rc.rK rfl rfl ?_; intro K hK; apply Exists.intro; refine ⟨?_, ?_⟩; (focus (intro x hx;  go_simp; (first | (fail) | ((try go_bits); (try go_simp); (try rfl))))); go_simp; refine hK _ ?_; clear hK K)
    refine Rc.r_load rfl rfl _ _ rfl (.slice ql M.length cl) (fun x hx => load_rowU (below_cell (Rc.undrew hx) HC5.out)) ?_; intro K hK; go_simp; refine hK _ ?_; clear hK K
    refine Rc.fK rfl rfl rfl rfl ?_ ?_
    · intro x Fs hx hle hg K hK
      have hlit := Rd_lit x #[.slice ql M.length cl] 23 1 1 rfl (by decide)
      go_wp2_with fail
      exact hK ⟨some ⟨x.heap.size, 0, none⟩, 1, undef⟩ _ ((Below.refl _ _).alloc (Nat.le_refl _) _) fun F y hF hy => hlit.keeps hy (fun k hk => .inr (by cases hk; exact hF _ (Nat.le_refl _) (by simp)))
    intro K hK; go_simp; refine hK _ ?_; clear hK K
    refine Rc.fK rfl rfl rfl rfl ?_ ?_
    · intro x Fs hx hle hg K hK
      have hrl : Rd x 1 (.slice (p 6).q 1 1) 1 [.slice ql M.length cl] := hg.1
      have hsum := parts_any (p 6).q 1 [M] x (HST.out.below (Rc.undrew hx)) ⟨_, hrl, fun i hi => by
        obtain rfl : i = 0 := by simpa using hi
        exact ⟨ql, cl, rfl, HOL.out.below (Rc.undrew hx)⟩⟩ (by simp; try omega)
      have HSU : Hid (Calls Tryz.prog 19 #[.slice (p 6).q 1 1] x fun e w' => e = .returned (.agg (bysA R)) ∧ Below x.heap.size x w') := Lib.hid (by rw [HRE.out]; simpa using hsum)
      clear hrl hsum hg hx
      go_wp2_with fail
      refine HSU.out.mono ?_
      rintro e x' ⟨rfl, hb⟩
      go_wp2_with fail
      exact hK Rc.dflt x' hb (fun _ _ _ _ => trivial)
    intro K hK; go_simp; refine hK _ ?_; clear hK K
    refine Rc.r_load rfl rfl _ _ rfl (.agg (bysA root)) (fun x hx => (PartAt.self _).load (Rp.row_le (Rc.undrew hx) HR0T.out) Tryz.underlying22 rfl HIRo.out) ?_; intro K hK; go_simp; refine hK _ ?_; clear hK K
    iterate 1 (refine Rc.rK rfl rfl ?_; intro K hK; apply Exists.intro; refine ⟨?_, ?_⟩; (focus (intro x hx;  go_simp; (first | (fail) | ((try go_bits); (try go_simp); (try rfl))))); go_simp; refine hK _ ?_; clear hK K)
    refine Rc.done fun x Fs hx hle hg => ?_
    clear hb0
    have HBX := Lib.hid (HBT.out.trans ((Rc.undrew hx).mono HBT.out.size))
    have HR1X := Lib.hid (Rp.row_le (Rc.undrew hx) HR1T.out)
    have HR2X := Lib.hid (Rp.row_le (Rc.undrew hx) HR2T.out)
    have HR3X := Lib.hid (Rp.row_le (Rc.undrew hx) HR3T.out)
    have HBXW := Lib.hid (HB1.out.trans (HBX.out.mono HB1.out.size))
    have c1x : x.cell? ⟨w.heap.size + 1 + 1, 1, none⟩ = some (.bool false) := (cell_of_row _ _ _ _ _ _ HR2X.out).trans H1.out
    have HME : Hid (sha (topT (bit k) S (endT false key val)) = R) := Lib.hid (by rw [HRE.out, HM.out])
    clear hx hle hg
    cases b0 with
    | true =>
      have hrr : R = root := by have := HB00.out; rwa [beq_iff_eq] at this
      have HRR := Lib.hid (HME.out.trans hrr)
      clear hrr
      go_wp2_with fail
      refine NoPanic.normal ?_
      go_wp2_with (first | (rw [z32S]; refine Rg.store_row rfl 22 _ _ rfl (w.heap.size + 1 + 1 + 1) rfl 22 (bysA zeros32) (bysA zeros32) rfl HR3X.out info32n rfl (bysA_one _) ?_))
      refine bodyPost_ret (v := .tuple #[.agg (bysA zeros32), .bool false, .int .i64 (0)]) (results_cell_two (P := Tryz.prog) rfl _ _ (w.heap.size + 1 + 1 + 1) 22 (bysA zeros32) (0, 0) _ _ _ rfl (setRow_heap _ _ _ _ 22 _ HR3X.out) rfl rfl Tryz.underlying22 rfl info32n) rfl ⟨zeros32, false, _, rfl, ⟨rfl, .inl rfl, fun _ => ⟨hSl, HRR.out, rfl, fun h => by cases h⟩⟩, below_setRow HBXW.out (by omega)⟩
    | false =>
      go_wp2_with fail
      refine NoPanic.normal ?_
      go_wp2_with (first | (rw [z32S]; refine Rg.store_row rfl 22 _ _ rfl (w.heap.size + 1 + 1 + 1) rfl 22 (bysA zeros32) (bysA zeros32) rfl HR3X.out info32n rfl (bysA_one _) ?_))
      refine bodyPost_ret (v := .tuple #[.agg (bysA zeros32), .bool false, .int .i64 (17)]) (results_cell_two (P := Tryz.prog) rfl _ _ (w.heap.size + 1 + 1 + 1) 22 (bysA zeros32) (0, 0) _ _ _ rfl (setRow_heap _ _ _ _ 22 _ HR3X.out) rfl rfl Tryz.underlying22 rfl info32n) rfl ⟨zeros32, false, _, rfl, ⟨rfl, .inr rfl, fun h => absurd h (by decide)⟩, below_setRow HBXW.out (by omega)⟩
  | true =>
    have HU := Lib.hid (Ab.under0 HT1.out HK.out HKL.out (S.length : Int) (by omega) (by omega))
    have HLK : Hid ((Instr.loadAt 28 (.pointer (some ⟨w.heap.size + 1, 0, none⟩))).run Tryz.prog w1 = .ok (.agg (bysA k)) w1) := Lib.hid ((PartAt.self _).load HR1.out Tryz.underlying28 rfl HIK.out)
    have HLY : Hid ((Instr.loadAt 28 (.pointer (some ⟨w.heap.size + 1 + 1, 2, none⟩))).run Tryz.prog w1 = .ok (.agg (bysA key)) w1) := Lib.hid (HKP.out.load HR2.out Tryz.underlying28 rfl HIY.out)
    go_wp2_with (first | (refine Ref.unguard16 (by rfl) ?_; refine l_load rfl _ _ rfl _ HLY.out ?_) | (refine Ref.unguard16 (by rfl) ?_; refine l_load rfl _ _ rfl _ HLK.out ?_))
    refine HU.out.mono ?_
    rintro e wc ⟨z, rfl, hbc⟩
    have HBC := Lib.hid hbc
    clear hbc c0 c1 HLK HLY HU
    cases z with
    | false =>
      have HR3C := Lib.hid (Rp.row_le HBC.out HR3.out)
      have HBW := Lib.hid (HB1.out.trans (HBC.out.mono HB1.out.size))
      go_wp2_with (first | (rw [z32S]; refine Rg.store_row rfl 22 _ _ rfl (w.heap.size + 1 + 1 + 1) rfl 22 (bysA zeros32) (bysA zeros32) rfl HR3C.out info32n rfl (bysA_one _) ?_))
      refine bodyPost_ret (v := .tuple #[.agg (bysA zeros32), .bool false, .int .i64 (17)]) (results_cell_two (P := Tryz.prog) rfl _ _ (w.heap.size + 1 + 1 + 1) 22 (bysA zeros32) (0, 0) _ _ _ rfl (setRow_heap _ _ _ _ 22 _ HR3C.out) rfl rfl Tryz.underlying22 rfl info32n) rfl ⟨zeros32, false, _, rfl, ⟨rfl, .inr rfl, fun h => absurd h (by decide)⟩, below_setRow HBW.out (by omega)⟩
    | true =>
      go_upto_region 3 with fail
      have HLK3 : Hid ((Instr.loadAt 28 (.pointer (some ⟨w.heap.size + 1, 0, none⟩))).run Tryz.prog wc = .ok (.agg (bysA k)) wc) := Lib.hid ((PartAt.self _).load (Rp.row_le HBC.out HR1.out) Tryz.underlying28 rfl HIK.out)
      have HLP3 : Hid ((Instr.loadAt 32 (.pointer (some ⟨w.heap.size + 1 + 1, 0, none⟩))).run Tryz.prog wc = .ok (.agg C) wc) := Lib.hid ((PartAt.self _).load (Rp.row_le HBC.out HR2.out) Tryz.underlying32 rfl (by rw [HCS.out]; exact Fnd.infoProof))
      go_wp2_with (first | (refine l_load rfl _ _ rfl _ HLK3.out ?_) | (refine l_load rfl _ _ rfl _ HLP3.out ?_))
      refine (waytexts_any k C true key val qs cs S wc (HS1.out.below HBC.out) HKL.out HCS.out H0.out H1.out HKP.out HVP.out HK.out HV.out (HSD.out.below HBC.out) hSl).mono ?_
      rintro e wt ⟨qt, ct, rfl, htx, hbt⟩
      have hwl := wayT_length (bit k) S (endT true key val)
      have hsh := wayT_short (bit k) S (endT true key val) (endT_le true key val HK.out HV.out) HSN.out.1
      have hla := wayT_last (bit k) S (endT true key val)
      obtain ⟨W, hW⟩ : ∃ W, W = wayT (bit k) S (endT true key val) := ⟨_, rfl⟩
      rw [← hW] at htx hwl hsh hla ⊢
      have HBT := Lib.hid (HBC.out.trans (hbt.mono HBC.out.size))
      have HTX := Lib.hid htx.parts
      have HWL := Lib.hid hwl
      have HSH := Lib.hid hsh
      have HLA := Lib.hid hla
      rw [hwl]
      clear hbt htx hwl hsh hla hW HLK3 HLP3
      obtain ⟨vs, hrd, hvs⟩ := HTX.out
      rw [HWL.out] at hrd hvs
      obtain ⟨ql, cl, hvl, hol⟩ := hvs S.length (by omega)
      rw [HLA.out] at hvl hol
      have hMs : (topT (bit k) S (endT true key val)).length ≤ 67 := HSH.out _ (by
        rw [← HLA.out, List.getD_eq_getElem?_getD, List.getElem?_eq_getElem (by rw [HWL.out]; omega)]
        exact List.getElem_mem _)
      obtain ⟨M, hM⟩ : ∃ M, M = topT (bit k) S (endT true key val) := ⟨_, rfl⟩
      rw [← hM] at hvl hol hMs
      obtain ⟨bq, oq, rfl, hbq, hnc, hcm, hcell⟩ := Rd_lt hrd (by omega)
      have hc5 := hcell _ _ hvl
      have HC5 := Lib.hid hc5
      have HOL := Lib.hid hol
      have HM := Lib.hid hM
      have HMR := Lib.hid (sha_length M)
      obtain ⟨R, hR⟩ : ∃ R, R = sha M := ⟨_, rfl⟩
      rw [← hR] at HMR
      have HRE := Lib.hid hR
      have HST := Lib.hid (HS1.out.below HBT.out)
      have HR0T := Lib.hid (Rp.row_le HBT.out HR0.out)
      have HR1T := Lib.hid (Rp.row_le HBT.out HR1.out)
      have HR2T := Lib.hid (Rp.row_le HBT.out HR2.out)
      have HR3T := Lib.hid (Rp.row_le HBT.out HR3.out)
      have HIRo := Lib.hid (info32r root HRL.out)
      have hSl2 : (S.length : Int) < (S.length : Int) + 1 := by omega
      have hlR : R.length = 32 := HMR.out
      obtain ⟨b0, hb0⟩ : ∃ b, (R == root) = b := ⟨_, rfl⟩
      have HB00 := Lib.hid hb0
      have hlRo : root.length = 32 := HRL.out
      clear hrd hvs hvl hol hM hcell hc5 hR hcm
      go_upto_region 4 with fail
      refine Rc.region (wt.heap.size) 10 [Rc.F 6 (fun p => .slice p.q 1 1) (fun p _ y => Rd y 1 (.slice p.q 1 1) 1 [.slice ql M.length cl]), Rc.G 7 [6] (fun _ => .agg (bysA R)) (fun _ _ _ => True)] [] (by kernel_rfl) (Nat.le_refl _) (by kernel_rfl) ?_; intro p; simp only [List.take, List.drop]
      iterate 5 (refine Rc.rK rfl rfl ?_; intro K hK; apply Exists.intro; refine ⟨?_, ?_⟩; (focus (intro x hx;  go_simp; (first | (fail) | ((try go_bits); (try go_simp); (try rfl))))); go_simp; refine hK _ ?_; clear hK K)
      refine Rc.r_load rfl rfl _ _ rfl (.slice ql M.length cl) (fun x hx => load_rowU (below_cell (Rc.undrew hx) HC5.out)) ?_; intro K hK; go_simp; refine hK _ ?_; clear hK K
      refine Rc.fK rfl rfl rfl rfl ?_ ?_
      · intro x Fs hx hle hg K hK
        have hlit := Rd_lit x #[.slice ql M.length cl] 23 1 1 rfl (by decide)
        go_wp2_with fail
        exact hK ⟨some ⟨x.heap.size, 0, none⟩, 1, undef⟩ _ ((Below.refl _ _).alloc (Nat.le_refl _) _) fun F y hF hy => hlit.keeps hy (fun k hk => .inr (by cases hk; exact hF _ (Nat.le_refl _) (by simp)))
      intro K hK; go_simp; refine hK _ ?_; clear hK K
      refine Rc.fK rfl rfl rfl rfl ?_ ?_
      · intro x Fs hx hle hg K hK
        have hrl : Rd x 1 (.slice (p 6).q 1 1) 1 [.slice ql M.length cl] := hg.1
        have hsum := parts_any (p 6).q 1 [M] x (HST.out.below (Rc.undrew hx)) ⟨_, hrl, fun i hi => by
          obtain rfl : i = 0 := by simpa using hi
          exact ⟨ql, cl, rfl, HOL.out.below (Rc.undrew hx)⟩⟩ (by simp; try omega)
        have HSU : Hid (Calls Tryz.prog 19 #[.slice (p 6).q 1 1] x fun e w' => e = .returned (.agg (bysA R)) ∧ Below x.heap.size x w') := Lib.hid (by rw [HRE.out]; simpa using hsum)
        clear hrl hsum hg hx
        go_wp2_with fail
        refine HSU.out.mono ?_
        rintro e x' ⟨rfl, hb⟩
        go_wp2_with fail
        exact hK Rc.dflt x' hb (fun _ _ _ _ => trivial)
      intro K hK; go_simp; refine hK _ ?_; clear hK K
      refine Rc.r_load rfl rfl _ _ rfl (.agg (bysA root)) (fun x hx => (PartAt.self _).load (Rp.row_le (Rc.undrew hx) HR0T.out) Tryz.underlying22 rfl HIRo.out) ?_; intro K hK; go_simp; refine hK _ ?_; clear hK K
      iterate 1 (refine Rc.rK rfl rfl ?_; intro K hK; apply Exists.intro; refine ⟨?_, ?_⟩; (focus (intro x hx;  go_simp; (first | (fail) | ((try go_bits); (try go_simp); (try rfl))))); go_simp; refine hK _ ?_; clear hK K)
      refine Rc.done fun x Fs hx hle hg => ?_
      clear hb0
      have HBX := Lib.hid (HBT.out.trans ((Rc.undrew hx).mono HBT.out.size))
      have HR1X := Lib.hid (Rp.row_le (Rc.undrew hx) HR1T.out)
      have HR2X := Lib.hid (Rp.row_le (Rc.undrew hx) HR2T.out)
      have HR3X := Lib.hid (Rp.row_le (Rc.undrew hx) HR3T.out)
      have HBXW := Lib.hid (HB1.out.trans (HBX.out.mono HB1.out.size))
      have c1x : x.cell? ⟨w.heap.size + 1 + 1, 1, none⟩ = some (.bool true) := (cell_of_row _ _ _ _ _ _ HR2X.out).trans H1.out
      have HME : Hid (sha (topT (bit k) S (endT true key val)) = R) := Lib.hid (by rw [HRE.out, HM.out])
      clear hx hle hg
      cases b0 with
      | true =>
        have hrr : R = root := by have := HB00.out; rwa [beq_iff_eq] at this
        have HRR := Lib.hid (HME.out.trans hrr)
        clear hrr
        go_wp2_with fail
        refine NoPanic.normal ?_
        have hlk : k.length = 32 := HKL.out
        have hly : key.length = 32 := HK.out
        have HLK4 : Hid ((Instr.loadAt 28 (.pointer (some ⟨w.heap.size + 1, 0, none⟩))).run Tryz.prog x = .ok (.agg (bysA k)) x) := Lib.hid ((PartAt.self _).load HR1X.out Tryz.underlying28 rfl HIK.out)
        have HLY4 : Hid ((Instr.loadAt 28 (.pointer (some ⟨w.heap.size + 1 + 1, 2, none⟩))).run Tryz.prog x = .ok (.agg (bysA key)) x) := Lib.hid (HKP.out.load HR2X.out Tryz.underlying28 rfl HIY.out)
        have HIV := Lib.hid (info32r val HV.out)
        have HLV4 : Hid ((Instr.loadAt 22 (.pointer (some ⟨w.heap.size + 1 + 1, 34, none⟩))).run Tryz.prog x = .ok (.agg (bysA val)) x) := Lib.hid (HVP.out.load HR2X.out Tryz.underlying22 rfl HIV.out)
        have HZV : Hid ((bysA zeros32).size = (bysA val).size) := Lib.hid (by rw [bysA_size, bysA_size, HV.out]; rfl)
        obtain ⟨bk, hbk⟩ : ∃ b, (key == k) = b := ⟨_, rfl⟩
        have HBK := Lib.hid hbk
        go_wp2_with (first | (refine Ref.unguard16 (by rfl) ?_; refine l_load rfl _ _ rfl _ HLY4.out ?_) | (refine Ref.unguard16 (by rfl) ?_; refine l_load rfl _ _ rfl _ HLK4.out ?_) | (refine l_load rfl _ _ rfl _ HLV4.out ?_) | (refine Rg.store_row rfl 22 _ _ rfl (w.heap.size + 1 + 1 + 1) rfl 22 (bysA zeros32) (bysA val) rfl HR3X.out HIV.out HZV.out (bysA_one _) ?_) | (rw [z32S]; refine Rg.store_row rfl 22 _ _ rfl (w.heap.size + 1 + 1 + 1) rfl 22 (bysA zeros32) (bysA zeros32) rfl HR3X.out info32n rfl (bysA_one _) ?_))
        · rename_i hbt
          refine bodyPost_ret (v := .tuple #[.agg (bysA val), .bool true, .int .i64 0]) (results_cell_two (P := Tryz.prog) rfl _ _ (w.heap.size + 1 + 1 + 1) 22 (bysA val) (0, 0) _ _ _ rfl (setRow_heap _ _ _ _ 22 _ HR3X.out) rfl rfl Tryz.underlying22 rfl HIV.out) rfl ⟨val, true, _, rfl, ⟨HV.out, .inl rfl, fun _ => ⟨hSl, HRR.out, by rw [HBK.out, hbt]; rfl, fun _ => rfl⟩⟩, below_setRow HBXW.out (by omega)⟩
        · rename_i hbt
          refine bodyPost_ret (v := .tuple #[.agg (bysA zeros32), .bool false, .int .i64 0]) (results_cell_two (P := Tryz.prog) rfl _ _ (w.heap.size + 1 + 1 + 1) 22 (bysA zeros32) (0, 0) _ _ _ rfl (setRow_heap _ _ _ _ 22 _ HR3X.out) rfl rfl Tryz.underlying22 rfl info32n) rfl ⟨zeros32, false, _, rfl, ⟨rfl, .inl rfl, fun _ => ⟨hSl, HRR.out, by rw [HBK.out]; simpa using hbt, fun h => by cases h⟩⟩, below_setRow HBXW.out (by omega)⟩
      | false =>
        go_wp2_with fail
        refine NoPanic.normal ?_
        go_wp2_with (first | (rw [z32S]; refine Rg.store_row rfl 22 _ _ rfl (w.heap.size + 1 + 1 + 1) rfl 22 (bysA zeros32) (bysA zeros32) rfl HR3X.out info32n rfl (bysA_one _) ?_))
        refine bodyPost_ret (v := .tuple #[.agg (bysA zeros32), .bool false, .int .i64 (17)]) (results_cell_two (P := Tryz.prog) rfl _ _ (w.heap.size + 1 + 1 + 1) 22 (bysA zeros32) (0, 0) _ _ _ rfl (setRow_heap _ _ _ _ 22 _ HR3X.out) rfl rfl Tryz.underlying22 rfl info32n) rfl ⟨zeros32, false, _, rfl, ⟨rfl, .inr rfl, fun h => absurd h (by decide)⟩, below_setRow HBXW.out (by omega)⟩
end Stn
end Go.Proofs.YtmonkggoilhngaaGreatDoor

/- What an answer to a look shows. Conditions: none beyond the bounds of bytes. -/
import Derived.Test.YtmonkggoilhngaaGreatDoorGLookA
import Derived.Test.YtmonkggoilhngaaGreatDoorGTenH
import Derived.Test.YtmonkggoilhngaaGreatDoorGAbQ
namespace Go.Proofs.YtmonkggoilhngaaGreatDoor
set_option linter.unusedVariables false
set_option linter.unusedSimpArgs false
open Go.RowKit Bits Mem Sha
namespace Stn
open Ref (RdL All32 linkText nextLink firstLink range_list)
def seenL (n : Int) (root : List UInt8) (ep : Int) (lk : List UInt8) (at0 : Int) (ix : List UInt8) (pr : Bool) (vr : Int) (v : Value) : Array Value := #[.int .i64 n] ++ bysA root ++ #[.bool false, .int .i64 ep] ++ bysA lk ++ #[.int .i64 at0] ++ bysA ix ++ #[.bool pr, .int .i64 vr, v]
section
variable {n : Int} {root : List UInt8} {ep : Int} {lk : List UInt8} {at0 : Int} {ix : List UInt8} {pr : Bool} {vr : Int} {v : Value}
theorem seenL_list : (seenL n root ep lk at0 ix pr vr v).toList = .int .i64 n :: (bys root ++ (.bool false :: .int .i64 ep :: (bys lk ++ (.int .i64 at0 :: (bys ix ++ [.bool pr, .int .i64 vr, v]))))) := by
  simp [seenL, bysA]
theorem seenL_size (hr : root.length = 32) (hl : lk.length = 32) (hi : ix.length = 32) : (seenL n root ep lk at0 ix pr vr v).size = 103 := by
  rw [← Array.length_toList, seenL_list]
  simp [bys_length, hr, hl, hi]
theorem seenL_one (hv : v.oneCell' = true) : (seenL n root ep lk at0 ix pr vr v).all (·.oneCell') = true := by
  rw [Array.all_eq_true_iff_forall_mem]
  intro u hu
  have hu : u ∈ (seenL n root ep lk at0 ix pr vr v).toList := by simpa using hu
  rw [seenL_list] at hu
  simp only [List.mem_append, List.mem_cons, List.not_mem_nil, or_false] at hu
  rcases hu with rfl | hu | rfl | rfl | hu | rfl | hu | rfl | rfl | rfl <;> first | rfl | exact bys_one _ _ hu | exact hv
theorem seenL_at (hr : root.length = 32) (hl : lk.length = 32) (hi : ix.length = 32) : (seenL n root ep lk at0 ix pr vr v)[34]? = some (.int .i64 ep) ∧ (seenL n root ep lk at0 ix pr vr v)[67]? = some (.int .i64 at0) ∧ (seenL n root ep lk at0 ix pr vr v)[100]? = some (.bool pr) ∧ (seenL n root ep lk at0 ix pr vr v)[101]? = some (.int .i64 vr) ∧ (seenL n root ep lk at0 ix pr vr v)[102]? = some v := by
  simp only [← Array.getElem?_toList, seenL_list]
  have e1 : (bys root).length = 32 := by rw [bys_length, hr]
  have e2 : (bys lk).length = 32 := by rw [bys_length, hl]
  have e3 : (bys ix).length = 32 := by rw [bys_length, hi]
  simp [List.getElem?_append, List.getElem?_cons, e1, e2, e3]
theorem part_mid {A : Array Value} {P Q : List Value} {l : List UInt8} {o : Nat} (h : A.toList = P ++ (bys l ++ Q)) (ho : P.length = o) : PartAt A o (bysA l) := by
  intro j u hu
  have hj := (Array.getElem?_eq_some_iff.1 hu).1
  rw [bysA_size] at hj
  rw [← Array.getElem?_toList, h, List.getElem?_append_right (by omega), ho, Nat.add_sub_cancel_left, List.getElem?_append_left (by rw [bys_length]; exact hj)]
  simpa [bysA] using hu
theorem seenL_rootP : PartAt (seenL n root ep lk at0 ix pr vr v) 1 (bysA root) := part_mid (P := [.int .i64 n]) seenL_list rfl
theorem seenL_linkP (hr : root.length = 32) : PartAt (seenL n root ep lk at0 ix pr vr v) 35 (bysA lk) :=
  part_mid (P := .int .i64 n :: (bys root ++ [.bool false, .int .i64 ep])) (Q := .int .i64 at0 :: (bys ix ++ [.bool pr, .int .i64 vr, v])) (by rw [seenL_list]; simp) (by simp [bys_length, hr])
theorem seenL_ixP (hr : root.length = 32) (hl : lk.length = 32) : PartAt (seenL n root ep lk at0 ix pr vr v) 68 (bysA ix) :=
  part_mid (P := .int .i64 n :: (bys root ++ (.bool false :: .int .i64 ep :: (bys lk ++ [.int .i64 at0])))) (Q := [.bool pr, .int .i64 vr, v]) (by rw [seenL_list]; simp) (by simp [bys_length, hr, hl])
theorem set_at {l r : List Value} {x y : Value} {k : Nat} {A : Array Value} (h : A.toList = l ++ x :: r) (hk : l.length = k) : (A.setIfInBounds k y).toList = l ++ y :: r := by
  rw [Array.toList_setIfInBounds, h, List.set_append, if_neg (by omega), hk, Nat.sub_self]
  rfl
theorem seenL_set1 {x : Int} (hr : root.length = 32) (hl : lk.length = 32) (hi : ix.length = 32) : (seenL n root ep lk at0 ix pr vr v).setIfInBounds 101 (.int .i64 x) = seenL n root ep lk at0 ix pr x v := by
  apply Array.toList_inj.1
  rw [set_at (l := .int .i64 n :: (bys root ++ (.bool false :: .int .i64 ep :: (bys lk ++ (.int .i64 at0 :: (bys ix ++ [.bool pr])))))) (x := .int .i64 vr) (r := [v]) (by rw [seenL_list]; simp) (by simp [bys_length, hr, hl, hi]), seenL_list]
  simp
theorem seenL_set2 {x : Value} (hr : root.length = 32) (hl : lk.length = 32) (hi : ix.length = 32) : (seenL n root ep lk at0 ix pr vr v).setIfInBounds 102 x = seenL n root ep lk at0 ix pr vr x := by
  apply Array.toList_inj.1
  rw [set_at (l := .int .i64 n :: (bys root ++ (.bool false :: .int .i64 ep :: (bys lk ++ (.int .i64 at0 :: (bys ix ++ [.bool pr, .int .i64 vr])))))) (x := v) (r := []) (by rw [seenL_list]; simp) (by simp [bys_length, hr, hl, hi]), seenL_list]
  simp
end
theorem seen7a (g1 g2 g3 : Nat → UInt8) (n ep at0 : Int) (pr : Bool) : Tryz.prog.built 50 [(0, .int .i64 n), (1, .agg (bysA ((List.range 32).map g1))), (3, .int .i64 ep), (4, .agg (bysA ((List.range 32).map g2))), (5, .int .i64 at0), (6, .agg (bysA ((List.range 32).map g3))), (7, .bool pr)] = some (seenL n ((List.range 32).map g1) ep ((List.range 32).map g2) at0 ((List.range 32).map g3) pr 0 (.slice none 0 0)) := by kernel_rfl
theorem seen7 {root lk ix : List UInt8} (hr : root.length = 32) (hl : lk.length = 32) (hi : ix.length = 32) (n ep at0 : Int) (pr : Bool) : Tryz.prog.built 50 [(0, .int .i64 n), (1, .agg (bysA root)), (3, .int .i64 ep), (4, .agg (bysA lk)), (5, .int .i64 at0), (6, .agg (bysA ix)), (7, .bool pr)] = some (seenL n root ep lk at0 ix pr 0 (.slice none 0 0)) := by
  have := seen7a (fun i => root.getD i 0) (fun i => lk.getD i 0) (fun i => ix.getD i 0) n ep at0 pr
  rw [range_list root hr, range_list lk hl, range_list ix hi] at this
  exact this
def seenO : Array Value := seenL 0 zeros32 0 zeros32 0 zeros32 false 0 (.slice none 0 0)
theorem seenO_size : seenO.size = 103 := seenL_size rfl rfl rfl
theorem seenO_one : seenO.all (·.oneCell') = true := seenL_one rfl
theorem zeroL : Tryz.zeroCells50 = seenO := by kernel_rfl
theorem seenO0 : Tryz.prog.built 50 [] = some seenO := by kernel_rfl
def seesP (id : List UInt8) (f : Foun) (R S : List (List UInt8)) (there : Bool) (key val root rt : List UInt8) (ep : Int) (lk : List UInt8) (at0 : Int) (ix : List UInt8) (pr : Bool) (vr : Int) (vl : List UInt8) : Prop :=
  rt = root ∧ ep = f.n + (R.length : Int) ∧ lk = lksL id f.n f.link R ∧ at0 = f.n ∧ ix = f.ix ∧ pr = f.there ∧ (f.there = true → vr = f.seq ∧ vl = f.text) ∧ (f.there = false → vr = 0 ∧ vl = []) ∧ 0 ≤ f.n ∧ f.n ≤ 4611686018427387904 ∧ linkP id f ∧ stdP id false (f.n + R.length) (lksL id f.n f.link R) S there key val root ∧ valueP f
def LookRet (id : List UInt8) (f : Foun) (R S : List (List UInt8)) (there : Bool) (key val root : List UInt8) (e : Ending) (w' : World) : Prop :=
  ∃ ns rt ep lk at0 ix pr vr q vl c y, e = .returned (.tuple #[.agg (seenL ns rt ep lk at0 ix pr vr (.slice q (List.length vl) c)), .int .i64 y]) ∧ rt.length = 32 ∧ lk.length = 32 ∧ ix.length = 32 ∧ Rd w' 1 (.slice q vl.length c) vl.length (bys vl) ∧ vl.length ≤ 1000000 ∧ (y = 0 → seesP id f R S there key val root rt ep lk at0 ix pr vr vl)
theorem LookRet.bad (id : List UInt8) (f : Foun) (R S : List (List UInt8)) (there : Bool) (key val root : List UInt8) (w' : World) {y : Int} (h : y ≠ 0) : LookRet id f R S there key val root (.returned (.tuple #[.agg seenO, .int .i64 y])) w' :=
  ⟨0, zeros32, 0, zeros32, 0, zeros32, false, 0, none, [], 0, y, rfl, rfl, rfl, rfl, Rd.nil w' 1, Nat.zero_le _, fun e => absurd e h⟩
set_option maxRecDepth 100000 in
set_option maxHeartbeats 4000000 in
theorem look_any {w : World} {pub : List UInt8} {qi : Option Addr} {ci : Nat} {id : List UInt8} {qb : Option Addr} {lb cb : Nat} {A F C' : Array Value} {f : Foun} {qf : Option Addr} {cf : Nat} {qv : Option Addr} {cv : Nat} {qr : Option Addr} {cr : Nat} {R : List (List UInt8)} {U C : Array Value} {qs : Option Addr} {cs : Nat} {S : List (List UInt8)} {there : Bool} {key val : List UInt8} {n : Int} {root sg log : List UInt8} {ql : Option Addr} {cl : Nat} {L : List (List UInt8)}
    (hT : Ab.WT Ab.gtL Ab.tabS w) (hS : Sha.Tabs w) (hp : pub.length = 32) (hid : Rd w 1 (.slice qi id.length ci) id.length (bys id)) (hil : id.length ≤ 1000000) (hA : LAns w A F U qr cr R) (hF : FoundIs w F f C' qf cf qv cv) (hU : UndIs w U C qs cs S there key val n root sg log ql cl L)
    (hX : ∀ x, Below w.heap.size w x → Calls Tryz.prog 26 #[.agg A, .slice qb lb cb] x fun e w' => ∃ z : Int, e = .returned (.int .i64 z) ∧ Below x.heap.size x w') :
    Calls Tryz.prog 11 #[.agg (bysA pub), .slice qi id.length ci, .slice qb lb cb, .agg A] w fun e w' => LookRet id f R S there key val root e w' ∧ Below w.heap.size w w' := by
  obtain ⟨kk, hkk⟩ := hA.kind
  obtain ⟨ke, hke⟩ := hA.err
  obtain ⟨w1, hw1⟩ : ∃ w1, w1 = ((w.alloc (.cells (bysA pub) 22)).alloc (.cells A 45)).alloc (.cells seenO 50) := ⟨_, rfl⟩
  have hb1 : Below w.heap.size w w1 := by rw [hw1]; exact (((Below.refl _ _).alloc (Nat.le_refl _) _).alloc (by simp) _).alloc (by simp; try omega) _
  have hr0 : w1.heap[w.heap.size]? = some (.cells (bysA pub) 22 (0, 0)) := by rw [hw1]; exact (Rg.heap_alloc_past _ _ _ (by simp; try omega)).trans ((Rg.heap_alloc_past _ _ _ (by simp)).trans (Rg.heap_alloc_at w _ _ rfl))
  have hr1 : w1.heap[w.heap.size + 1]? = some (.cells A 45 (0, 0)) := by rw [hw1]; exact (Rg.heap_alloc_past _ _ _ (by simp)).trans (Rg.heap_alloc_at _ _ _ (by simp))
  have hr2 : w1.heap[w.heap.size + 1 + 1]? = some (.cells seenO 50 (0, 0)) := by rw [hw1]; exact Rg.heap_alloc_at _ _ _ (by simp)
  obtain ⟨w2, hw2⟩ : ∃ w2, w2 = w1.alloc (.cells F 34) := ⟨_, rfl⟩
  have hb12 : Below w1.heap.size w1 w2 := by rw [hw2]; exact (Below.refl _ _).alloc (Nat.le_refl _) _
  have hb2 := hb1.trans (hb12.mono hb1.size)
  have hr3 : w2.heap[w1.heap.size]? = some (.cells F 34 (0, 0)) := by rw [hw2]; exact heap_alloc_new w1 _
  have hr12 := Rp.row_le hb12 hr1
  have c0 : w2.cell? ⟨w.heap.size + 1, 0, none⟩ = some (.int .i64 kk) := (cell_of_row _ _ _ _ _ _ hr12).trans hkk
  have c1 : w2.cell? ⟨w.heap.size + 1, 1, none⟩ = some (.int .i64 ke) := (cell_of_row _ _ _ _ _ _ hr12).trans hke
  obtain ⟨n0, hn0⟩ : ∃ n0, n0 = f.n := ⟨_, rfl⟩
  have c2 : w2.cell? ⟨w1.heap.size, 0, none⟩ = some (.int .i64 n0) := (cell_of_row _ _ _ _ _ _ hr3).trans (by rw [hn0]; exact hF.c0)
  have HLF : Hid ((Instr.loadAt 34 (.pointer (some ⟨w.heap.size + 1, 3, none⟩))).run Tryz.prog w1 = .ok (.agg F) w1) := Lib.hid (hA.fouP.load hr1 Tryz.underlying34 rfl (by rw [hF.size]; exact infoFound))
  have HIF : Hid ((Tryz.prog.info? 34).map (·.size) = some F.size) := Lib.hid (by rw [hF.size]; exact infoFound)
  have HSF : Hid ((Tryz.zeroCells34).size = F.size) := Lib.hid (by rw [hF.size]; decide +kernel)
  have hone : F.all (·.oneCell') = true := by
    have := hA.typ.all1
    rw [Array.all_eq_true_iff_forall_mem] at this ⊢
    intro v hv
    obtain ⟨j, hj, rfl⟩ := Array.mem_iff_getElem.1 hv
    exact this _ (Array.mem_of_getElem? (hA.fouP j _ (Array.getElem?_eq_getElem hj)))
  have HOF := Lib.hid hone
  have HB2 := Lib.hid hb2
  have HR0 := Lib.hid (Rp.row_le hb12 hr0)
  have HR1 := Lib.hid hr12
  have HR2 := Lib.hid (Rp.row_le hb12 hr2)
  have HR3 := Lib.hid hr3
  have HT2 := Lib.hid (hT.past hb2)
  have HS2 := Lib.hid (hS.below hb2)
  have HF2 := Lib.hid (hF.below hb2)
  have HU2 := Lib.hid (hU.below hb2)
  have HA2 := Lib.hid (hA.below hb2)
  have HP := Lib.hid hp
  have HID2 := Lib.hid (hid.below hb2)
  have HX := Lib.hid hX
  have HN0 := Lib.hid hn0
  have HW1 := Lib.hid hw1
  have HW2 := Lib.hid hw2
  have hsz2 : w.heap.size + 1 + 1 < w1.heap.size := lt_of_heap hr2
  have HI0 : Hid ((Tryz.prog.info? 50).map (·.size) = some seenO.size) := Lib.hid (by rw [seenO_size]; exact infoSeen)
  have HO0 := Lib.hid seenO_one
  clear hkk hke hw1 hw2 hb1 hb12 hb2 hr0 hr1 hr2 hr3 hr12 hT hS hF hU hA hp hid hX hn0 hone
  go_enter Tryz.func11, Tryz.ntmps11
  go_upto_region 1 with fail
  rw [zeroL, ← HW1.out]
  go_upto_region 2 with (first | (refine l_load rfl _ _ rfl _ HLF.out ?_) | (refine Rg.store_row_new rfl 34 _ _ rfl w1.heap.size rfl rfl 34 _ F rfl HIF.out HSF.out HOF.out ?_))
  rw [← HW2.out]
  obtain ⟨g3, hg3⟩ : ∃ g, g = w1.heap.size := ⟨_, rfl⟩
  rw [← hg3] at HR3 c2 hsz2 ⊢
  clear hg3 HW1 HW2 HLF
  by_cases hk6 : kk = 6
  case neg =>
    have h1 : (kk == 6) = false := by simpa using hk6
    have h2 : (kk != 6) = true := by simpa using hk6
    go_wp2_with (first | (refine l_buildT rfl 50 _ rfl seenO seenO0 ?_) | (refine Rg.store_row rfl 50 _ _ rfl (w.heap.size + 1 + 1) rfl 50 seenO seenO rfl HR2.out HI0.out rfl HO0.out ?_))
    refine bodyPost_ret (v := .tuple #[.agg seenO, .int .i64 (2)]) (Fld.results_cell_slotE (P := Tryz.prog) rfl _ _ (w.heap.size + 1 + 1) 50 seenO (0, 0) _ _ rfl (setRow_heap _ _ _ _ 50 _ HR2.out) rfl Tryz.underlying50 rfl HI0.out) rfl ⟨LookRet.bad _ _ _ _ _ _ _ _ _ (by decide), below_setRow HB2.out (by omega)⟩
  subst hk6
  by_cases hke0 : ke = 0
  case neg =>
    have h1 : (ke == 0) = false := by simpa using hke0
    have h2 : (ke != 0) = true := by simpa using hke0
    go_wp2_with (first | (refine l_buildT rfl 50 _ rfl seenO seenO0 ?_) | (refine Rg.store_row rfl 50 _ _ rfl (w.heap.size + 1 + 1) rfl 50 seenO seenO rfl HR2.out HI0.out rfl HO0.out ?_))
    refine bodyPost_ret (v := .tuple #[.agg seenO, .int .i64 (2)]) (Fld.results_cell_slotE (P := Tryz.prog) rfl _ _ (w.heap.size + 1 + 1) 50 seenO (0, 0) _ _ rfl (setRow_heap _ _ _ _ 50 _ HR2.out) rfl Tryz.underlying50 rfl HI0.out) rfl ⟨LookRet.bad _ _ _ _ _ _ _ _ _ (by decide), below_setRow HB2.out (by omega)⟩
  subst hke0
  by_cases hlo : n0 < 0
  case pos =>
    go_wp2_with (first | (refine l_buildT rfl 50 _ rfl seenO seenO0 ?_) | (refine Rg.store_row rfl 50 _ _ rfl (w.heap.size + 1 + 1) rfl 50 seenO seenO rfl HR2.out HI0.out rfl HO0.out ?_))
    refine bodyPost_ret (v := .tuple #[.agg seenO, .int .i64 (2)]) (Fld.results_cell_slotE (P := Tryz.prog) rfl _ _ (w.heap.size + 1 + 1) 50 seenO (0, 0) _ _ rfl (setRow_heap _ _ _ _ 50 _ HR2.out) rfl Tryz.underlying50 rfl HI0.out) rfl ⟨LookRet.bad _ _ _ _ _ _ _ _ _ (by decide), below_setRow HB2.out (by omega)⟩
  by_cases hhi : n0 > 4611686018427387904
  case pos =>
    go_wp2_with (first | (refine l_buildT rfl 50 _ rfl seenO seenO0 ?_) | (refine Rg.store_row rfl 50 _ _ rfl (w.heap.size + 1 + 1) rfl 50 seenO seenO rfl HR2.out HI0.out rfl HO0.out ?_))
    refine bodyPost_ret (v := .tuple #[.agg seenO, .int .i64 (2)]) (Fld.results_cell_slotE (P := Tryz.prog) rfl _ _ (w.heap.size + 1 + 1) 50 seenO (0, 0) _ _ rfl (setRow_heap _ _ _ _ 50 _ HR2.out) rfl Tryz.underlying50 rfl HI0.out) rfl ⟨LookRet.bad _ _ _ _ _ _ _ _ _ (by decide), below_setRow HB2.out (by omega)⟩
  go_upto_region 4 with fail
  have HLF2 : Hid ((Instr.loadAt 34 (.pointer (some ⟨g3, 0, none⟩))).run Tryz.prog w2 = .ok (.agg F) w2) := Lib.hid ((PartAt.self F).load HR3.out Tryz.underlying34 rfl HIF.out)
  have HLK := Lib.hid (link_any HS2.out HID2.out hil HF2.out)
  go_wp2_with (refine l_load rfl _ _ rfl _ HLF2.out ?_)
  refine HLK.out.mono ?_
  rintro e w3 ⟨b, rfl, hb, hb23⟩
  have HLP := Lib.hid hb
  have HB23 := Lib.hid hb23
  have HB3 := Lib.hid (HB2.out.trans (hb23.mono HB2.out.size))
  have HR23 := Lib.hid (Rp.row_le hb23 HR2.out)
  clear hb hb23 c0 c1 c2
  cases b with
  | false =>
    go_wp2_with (first | (refine l_buildT rfl 50 _ rfl seenO seenO0 ?_) | (refine Rg.store_row rfl 50 _ _ rfl (w.heap.size + 1 + 1) rfl 50 seenO seenO rfl HR23.out HI0.out rfl HO0.out ?_))
    refine bodyPost_ret (v := .tuple #[.agg seenO, .int .i64 (17)]) (Fld.results_cell_slotE (P := Tryz.prog) rfl _ _ (w.heap.size + 1 + 1) 50 seenO (0, 0) _ _ rfl (setRow_heap _ _ _ _ 50 _ HR23.out) rfl Tryz.underlying50 rfl HI0.out) rfl ⟨LookRet.bad _ _ _ _ _ _ _ _ _ (by decide), below_setRow HB3.out (by omega)⟩
  | true =>
    have HR33 := Lib.hid (Rp.row_le HB23.out HR3.out)
    have hr13 := Rp.row_le HB23.out HR1.out
    have HLF3 : Hid ((Instr.loadAt 34 (.pointer (some ⟨g3, 0, none⟩))).run Tryz.prog w3 = .ok (.agg F) w3) := Lib.hid ((PartAt.self F).load HR33.out Tryz.underlying34 rfl HIF.out)
    have HLR3 : Hid ((Instr.loadAt 27 (.pointer (some ⟨w.heap.size + 1, 378, none⟩))).run Tryz.prog w3 = .ok (.slice qr R.length cr) w3) := Lib.hid (load_rowS ((cell_of_row _ _ _ _ _ _ hr13).trans HA2.out.c378))
    have HMB := Lib.hid (member_any (HS2.out.below HB23.out) (HID2.out.below HB23.out) hil (HF2.out.below HB23.out) (HA2.out.row.below HB23.out) HA2.out.few (by rw [← HN0.out]; omega) (by rw [← HN0.out]; omega))
    obtain ⟨E, hE⟩ : ∃ E, E = lksL id f.n f.link R := ⟨_, rfl⟩
    have hEl : E.length = 32 := by rw [hE]; exact lksL_length _ _ _ _ HF2.out.ok.linkL
    obtain ⟨M, hM⟩ : ∃ M, M = memA (.slice qi id.length ci) (n0 + (R.length : Int)) E := ⟨_, rfl⟩
    have hMs : M.size = 35 := by rw [hM]; exact memA_size hEl
    rw [← hE, ← HN0.out, ← hM] at HMB
    have HIM : Hid ((Tryz.prog.info? 43).map (·.size) = some M.size) := Lib.hid (by rw [hMs]; exact infoMem)
    have HSM : Hid (35 = M.size) := Lib.hid hMs.symm
    have HOM : Hid (M.all (·.oneCell') = true) := Lib.hid (by rw [hM]; exact memA_one rfl _ _)
    have HME := Lib.hid hM
    have HEE := Lib.hid hE
    have HEL := Lib.hid hEl
    clear hr13 hE hEl hM hMs HLF2
    go_wp2_with (first | (refine l_load rfl _ _ rfl _ HLF3.out ?_) | (refine l_load rfl _ _ rfl _ HLR3.out ?_))
    refine HMB.out.mono ?_
    rintro e w4 ⟨rfl, hb34⟩
    obtain ⟨w5, hw5⟩ : ∃ w5, w5 = w4.alloc (.cells M 43) := ⟨_, rfl⟩
    have hb45 : Below w4.heap.size w4 w5 := by rw [hw5]; exact (Below.refl _ _).alloc (Nat.le_refl _) _
    have hrm : w5.heap[w4.heap.size]? = some (.cells M 43 (0, 0)) := by rw [hw5]; exact heap_alloc_new w4 _
    have hb24 : Below w2.heap.size w2 w4 := HB23.out.trans (hb34.mono HB23.out.size)
    have hb25 : Below w2.heap.size w2 w5 := hb24.trans (hb45.mono hb24.size)
    have HB25 := Lib.hid hb25
    have HRM := Lib.hid hrm
    have HW5 := Lib.hid hw5
    have hs4 : w2.heap.size ≤ w4.heap.size := hb24.size
    clear hb34 hw5 hb45 hrm hb24 hb25 HLF3 HLR3 HR33 HR23 HB3 HB23 HMB HLK
    go_upto_region 7 with (refine Rg.store_row_new rfl 43 _ _ rfl w4.heap.size rfl rfl 43 _ M rfl HIM.out HSM.out HOM.out ?_)
    rw [← HW5.out]
    obtain ⟨g11, hg11⟩ : ∃ g, g = w4.heap.size := ⟨_, rfl⟩
    rw [← hg11] at HRM hs4 ⊢
    clear hg11 HW5
    have hr15 := Rp.row_le HB25.out HR1.out
    have HL0 : Hid ((Instr.loadAt 22 (.pointer (some ⟨w.heap.size, 0, none⟩))).run Tryz.prog w5 = .ok (.agg (bysA pub)) w5) := Lib.hid ((PartAt.self _).load (Rp.row_le HB25.out HR0.out) Tryz.underlying22 rfl (info32r pub HP.out))
    have HL1 : Hid ((Instr.loadAt 43 (.pointer (some ⟨g11, 0, none⟩))).run Tryz.prog w5 = .ok (.agg M) w5) := Lib.hid ((PartAt.self M).load HRM.out Tryz.underlying43 rfl HIM.out)
    have HL2 : Hid ((Instr.loadAt 39 (.pointer (some ⟨w.heap.size + 1, 379, none⟩))).run Tryz.prog w5 = .ok (.agg U) w5) := Lib.hid (HA2.out.undP.load hr15 Tryz.underlying39 rfl (by rw [HU2.out.size]; exact infoUnder))
    have HMI : Hid (MemIs w5 M qi ci id false (n0 + (R.length : Int)) E) := Lib.hid (by
      rw [HME.out]
      have hfw := HA2.out.few
      exact ⟨memA_size HEL.out, by rw [← Array.getElem?_toList, memA_list]; rfl, by rw [← Array.getElem?_toList, memA_list]; rfl, memA_c2, memA_linkP, HEL.out, by omega, by omega, HID2.out.below HB25.out, hil⟩)
    have HST := Lib.hid (stands_any (HT2.out.past HB25.out) (HS2.out.below HB25.out) HP.out HMI.out (HU2.out.below HB25.out))
    clear hr15
    go_wp2_with (first | (refine l_load rfl _ _ rfl _ HL0.out ?_) | (refine l_load rfl _ _ rfl _ HL1.out ?_) | (refine l_load rfl _ _ rfl _ HL2.out ?_))
    refine HST.out.mono ?_
    rintro e w6 ⟨z, rfl, hz, hb56⟩
    have HSP := Lib.hid hz
    have hb26 : Below w2.heap.size w2 w6 := HB25.out.trans (hb56.mono HB25.out.size)
    have HB26 := Lib.hid hb26
    have HB6 := Lib.hid (HB2.out.trans (hb26.mono HB2.out.size))
    have HR26 := Lib.hid (Rp.row_le hb26 HR2.out)
    have HRM6 := Lib.hid (Rp.row_le hb56 HRM.out)
    clear hz hb56 hb26 HL0 HL1 HL2 HST HMI HRM
    by_cases hz0 : z = 0
    case neg =>
      have hz1 : (z == 0) = false := by simpa using hz0
      have hz2 : (z != 0) = true := by simpa using hz0
      go_wp2_with (first | (refine l_buildT rfl 50 _ rfl seenO seenO0 ?_) | (refine Rg.store_row rfl 50 _ _ rfl (w.heap.size + 1 + 1) rfl 50 seenO seenO rfl HR26.out HI0.out rfl HO0.out ?_))
      refine bodyPost_ret (v := .tuple #[.agg seenO, .int .i64 (z)]) (Fld.results_cell_slotE (P := Tryz.prog) rfl _ _ (w.heap.size + 1 + 1) 50 seenO (0, 0) _ _ rfl (setRow_heap _ _ _ _ 50 _ HR26.out) rfl Tryz.underlying50 rfl HI0.out) rfl ⟨LookRet.bad _ _ _ _ _ _ _ _ _ (hz0), below_setRow HB6.out (by omega)⟩
    subst hz0
    have HLA : Hid ((Instr.loadAt 45 (.pointer (some ⟨w.heap.size + 1, 0, none⟩))).run Tryz.prog w6 = .ok (.agg A) w6) := Lib.hid ((PartAt.self A).load (Rp.row_le HB26.out HR1.out) Tryz.underlying45 rfl (by rw [HA2.out.size]; exact infoAns))
    have HXX := Lib.hid (HX.out w6 HB6.out)
    go_wp2_with (refine l_load rfl _ _ rfl _ HLA.out ?_)
    refine HXX.out.mono ?_
    rintro e w7 ⟨z2, rfl, hb67⟩
    have hb27 : Below w2.heap.size w2 w7 := HB26.out.trans (hb67.mono HB26.out.size)
    have HB27 := Lib.hid hb27
    have HB7 := Lib.hid (HB2.out.trans (hb27.mono HB2.out.size))
    have HR27 := Lib.hid (Rp.row_le hb27 HR2.out)
    have HRM7 := Lib.hid (Rp.row_le hb67 HRM6.out)
    clear hb67 hb27 HLA HXX HRM6 HR26 HB6 HB26
    by_cases hz0 : z2 = 0
    case neg =>
      have hz1 : (z2 == 0) = false := by simpa using hz0
      have hz2 : (z2 != 0) = true := by simpa using hz0
      go_wp2_with (first | (refine l_buildT rfl 50 _ rfl seenO seenO0 ?_) | (refine Rg.store_row rfl 50 _ _ rfl (w.heap.size + 1 + 1) rfl 50 seenO seenO rfl HR27.out HI0.out rfl HO0.out ?_))
      refine bodyPost_ret (v := .tuple #[.agg seenO, .int .i64 (z2)]) (Fld.results_cell_slotE (P := Tryz.prog) rfl _ _ (w.heap.size + 1 + 1) 50 seenO (0, 0) _ _ rfl (setRow_heap _ _ _ _ 50 _ HR27.out) rfl Tryz.underlying50 rfl HI0.out) rfl ⟨LookRet.bad _ _ _ _ _ _ _ _ _ (hz0), below_setRow HB7.out (by omega)⟩
    subst hz0
    have HLF7 : Hid ((Instr.loadAt 34 (.pointer (some ⟨g3, 0, none⟩))).run Tryz.prog w7 = .ok (.agg F) w7) := Lib.hid ((PartAt.self F).load (Rp.row_le HB27.out HR3.out) Tryz.underlying34 rfl HIF.out)
    have HFV := Lib.hid (fvalue_any (HT2.out.past HB27.out) (HS2.out.below HB27.out) (HF2.out.below HB27.out))
    go_wp2_with (refine l_load rfl _ _ rfl _ HLF7.out ?_)
    refine HFV.out.mono ?_
    rintro e w8 ⟨b, rfl, hb, hb78⟩
    have HVP := Lib.hid hb
    have hb28 : Below w2.heap.size w2 w8 := HB27.out.trans (hb78.mono HB27.out.size)
    have HB28 := Lib.hid hb28
    have HB8 := Lib.hid (HB2.out.trans (hb28.mono HB2.out.size))
    have HR28 := Lib.hid (Rp.row_le hb28 HR2.out)
    have HRM8 := Lib.hid (Rp.row_le hb78 HRM7.out)
    clear hb hb78 hb28 HLF7 HFV HRM7 HR27 HB7 HB27
    cases b with
    | false =>
      go_wp2_with (first | (refine l_buildT rfl 50 _ rfl seenO seenO0 ?_) | (refine Rg.store_row rfl 50 _ _ rfl (w.heap.size + 1 + 1) rfl 50 seenO seenO rfl HR28.out HI0.out rfl HO0.out ?_))
      refine bodyPost_ret (v := .tuple #[.agg seenO, .int .i64 (17)]) (Fld.results_cell_slotE (P := Tryz.prog) rfl _ _ (w.heap.size + 1 + 1) 50 seenO (0, 0) _ _ rfl (setRow_heap _ _ _ _ 50 _ HR28.out) rfl Tryz.underlying50 rfl HI0.out) rfl ⟨LookRet.bad _ _ _ _ _ _ _ _ _ (by decide), below_setRow HB8.out (by omega)⟩
    | true =>
      go_upto_region 15 with fail
      have hr18 := Rp.row_le HB28.out HR1.out
      have hr38 := Rp.row_le HB28.out HR3.out
      obtain ⟨ix, hix⟩ : ∃ l, l = f.ix := ⟨_, rfl⟩
      obtain ⟨th, hth⟩ : ∃ b, b = f.there := ⟨_, rfl⟩
      have hixl : ix.length = 32 := by rw [hix]; exact HF2.out.ok.ixL
      have hrl := HU2.out.rootL
      have HA0 : Hid ((Instr.loadAt 3 (.pointer (some ⟨w.heap.size + 1, 445, none⟩))).run Tryz.prog w8 = .ok (.int .i64 n) w8) := Lib.hid (load_rowI (HA2.out.undP.cell hr18 HU2.out.ep))
      have HA1 : Hid ((Instr.loadAt 22 (.pointer (some ⟨w.heap.size + 1, 446, none⟩))).run Tryz.prog w8 = .ok (.agg (bysA root)) w8) := Lib.hid ((HA2.out.undP.trans HU2.out.rootP).load hr18 Tryz.underlying22 rfl (info32r root hrl))
      have HA3 : Hid ((Instr.loadAt 3 (.pointer (some ⟨g11, 2, none⟩))).run Tryz.prog w8 = .ok (.int .i64 (n0 + (R.length : Int))) w8) := Lib.hid (load_rowI ((cell_of_row _ _ _ _ _ _ HRM8.out).trans (by rw [HME.out]; exact memA_c2)))
      have HA4 : Hid ((Instr.loadAt 22 (.pointer (some ⟨g11, 3, none⟩))).run Tryz.prog w8 = .ok (.agg (bysA E)) w8) := Lib.hid (PartAt.load (by rw [HME.out]; exact memA_linkP) HRM8.out Tryz.underlying22 rfl (info32r E HEL.out))
      have HA5 : Hid ((Instr.loadAt 3 (.pointer (some ⟨g3, 0, none⟩))).run Tryz.prog w8 = .ok (.int .i64 n0) w8) := Lib.hid (load_rowI ((cell_of_row _ _ _ _ _ _ hr38).trans (by rw [HN0.out]; exact HF2.out.c0)))
      have HA6 : Hid ((Instr.loadAt 22 (.pointer (some ⟨g3, 1, none⟩))).run Tryz.prog w8 = .ok (.agg (bysA ix)) w8) := Lib.hid (PartAt.load (by rw [hix]; exact HF2.out.ixP) hr38 Tryz.underlying22 rfl (info32r ix hixl))
      have HA7 : Hid ((Instr.loadAt 4 (.pointer (some ⟨g3, 113, none⟩))).run Tryz.prog w8 = .ok (.bool th) w8) := Lib.hid (load_rowB ((cell_of_row _ _ _ _ _ _ hr38).trans (by rw [hth]; exact HF2.out.c113)))
      have HBD := Lib.hid (seen7 hrl HEL.out hixl n (n0 + (R.length : Int)) n0 th)
      obtain ⟨X, hX⟩ : ∃ X, X = seenL n root (n0 + (R.length : Int)) E n0 ix th 0 (.slice none 0 0) := ⟨_, rfl⟩
      rw [← hX] at HBD
      have hXs : X.size = 103 := by rw [hX]; exact seenL_size hrl HEL.out hixl
      have HIX : Hid ((Tryz.prog.info? 50).map (·.size) = some X.size) := Lib.hid (by rw [hXs]; exact infoSeen)
      have HSX : Hid ((Tryz.zeroCells50).size = X.size) := Lib.hid (by rw [hXs, zeroL]; exact seenO_size)
      have HOX : Hid (X.all (·.oneCell') = true) := Lib.hid (by rw [hX]; exact seenL_one rfl)
      obtain ⟨w9, hw9⟩ : ∃ w9, w9 = w8.alloc (.cells X 50) := ⟨_, rfl⟩
      have hb89 : Below w8.heap.size w8 w9 := by rw [hw9]; exact (Below.refl _ _).alloc (Nat.le_refl _) _
      have hrx : w9.heap[w8.heap.size]? = some (.cells X 50 (0, 0)) := by rw [hw9]; exact heap_alloc_new w8 _
      have hb29 : Below w2.heap.size w2 w9 := HB28.out.trans (hb89.mono HB28.out.size)
      have hs8 : w2.heap.size ≤ w8.heap.size := HB28.out.size
      have HB29 := Lib.hid hb29
      have HB9 := Lib.hid (HB2.out.trans (hb29.mono HB2.out.size))
      have HR29 := Lib.hid (Rp.row_le hb29 HR2.out)
      have HR39 := Lib.hid (Rp.row_le hb29 HR3.out)
      have HRX := Lib.hid hrx
      have HW9 := Lib.hid hw9
      have HXE := Lib.hid hX
      have HIXE := Lib.hid hix
      have HTHE := Lib.hid hth
      have HIXL := Lib.hid hixl
      have HRL := Lib.hid hrl
      clear hr18 hr38 hix hth hixl hrl hX hXs hw9 hb89 hrx hb29 HRM8
      go_wp2_with (first | (refine l_loadG 3 _ rfl (.pointer (some ⟨w.heap.size + 1, 445, none⟩)) rfl _ HA0.out (by kernel_rfl) ?_; refine Hid.out ?_))
      refine Lib.hid ?_
      go_wp2_with (first | (refine l_loadG 22 _ rfl (.pointer (some ⟨w.heap.size + 1, 446, none⟩)) rfl _ HA1.out (by kernel_rfl) ?_; refine Hid.out ?_))
      refine Lib.hid ?_
      go_wp2_with (first | (refine l_loadG 3 _ rfl (.pointer (some ⟨g11, 2, none⟩)) rfl _ HA3.out (by kernel_rfl) ?_; refine Hid.out ?_))
      refine Lib.hid ?_
      go_wp2_with (first | (refine l_loadG 22 _ rfl (.pointer (some ⟨g11, 3, none⟩)) rfl _ HA4.out (by kernel_rfl) ?_; refine Hid.out ?_))
      refine Lib.hid ?_
      go_wp2_with (first | (refine l_loadG 3 _ rfl (.pointer (some ⟨g3, 0, none⟩)) rfl _ HA5.out (by kernel_rfl) ?_; refine Hid.out ?_))
      refine Lib.hid ?_
      go_wp2_with (first | (refine l_loadG 22 _ rfl (.pointer (some ⟨g3, 1, none⟩)) rfl _ HA6.out (by kernel_rfl) ?_; refine Hid.out ?_))
      refine Lib.hid ?_
      go_wp2_with (first | (refine l_loadG 4 _ rfl (.pointer (some ⟨g3, 113, none⟩)) rfl _ HA7.out (by kernel_rfl) ?_; refine Hid.out ?_))
      refine Lib.hid ?_
      clear HA0 HA1 HA3 HA4 HA5 HA6 HA7
      refine l_buildT rfl 50 #[(0, .tmp 71), (1, .tmp 75), (3, .tmp 77), (4, .tmp 79), (5, .tmp 81), (6, .tmp 83), (7, .tmp 85)] rfl X (by simp only [List.map_toArray, List.map_cons, List.map_nil]; exact HBD.out) ?_
      go_simp
      go_upto_region 16 with (refine Rg.store_row_new rfl 50 _ _ rfl w8.heap.size rfl rfl 50 _ X rfl HIX.out HSX.out HOX.out ?_)
      rw [← HW9.out]
      obtain ⟨g14, hg14⟩ : ∃ g, g = w8.heap.size := ⟨_, rfl⟩
      rw [← hg14] at HRX hs8 ⊢
      clear hg14 HW9 HBD HSX
      have HLT : Hid ((Instr.loadAt 4 (.pointer (some ⟨g3, 113, none⟩))).run Tryz.prog w9 = .ok (.bool th) w9) := Lib.hid (load_rowB ((cell_of_row _ _ _ _ _ _ HR39.out).trans (by rw [HTHE.out]; exact HF2.out.c113)))
      have hg3w := lt_of_heap HR3.out
      have hg2s : w.heap.size + 1 + 1 < g14 := by omega
      cases th with
      | false =>
        have HLX : Hid ((Instr.loadAt 50 (.pointer (some ⟨g14, 0, none⟩))).run Tryz.prog w9 = .ok (.agg X) w9) := Lib.hid ((PartAt.self X).load HRX.out Tryz.underlying50 rfl HIX.out)
        have HSZ : Hid (seenO.size = X.size) := Lib.hid (by rw [HXE.out, seenO_size, seenL_size HRL.out HEL.out HIXL.out])
        go_wp2_with (first | (refine l_loadG 4 _ rfl (.pointer (some ⟨g3, 113, none⟩)) rfl _ HLT.out (by kernel_rfl) ?_; refine Hid.out ?_))
        refine Lib.hid ?_
        go_wp2_with (first | (refine l_load rfl _ _ rfl _ HLX.out ?_) | (refine Rg.store_row rfl 50 _ _ rfl (w.heap.size + 1 + 1) rfl 50 seenO X rfl HR29.out HIX.out HSZ.out HOX.out ?_))
        refine bodyPost_ret (v := .tuple #[.agg X, .int .i64 0]) (Fld.results_cell_slotE (P := Tryz.prog) rfl _ _ (w.heap.size + 1 + 1) 50 X (0, 0) _ _ rfl (setRow_heap _ _ _ _ 50 _ HR29.out) rfl Tryz.underlying50 rfl HIX.out) rfl ⟨⟨n, root, n0 + (R.length : Int), E, n0, ix, false, 0, none, [], 0, 0, by rw [HXE.out]; rfl, HRL.out, HEL.out, HIXL.out, Rd.nil _ 1, Nat.zero_le _, fun _ => ⟨rfl, by rw [HN0.out], HEE.out, HN0.out, HIXE.out, HTHE.out, fun h => (by rw [← HTHE.out] at h; cases h), fun _ => ⟨rfl, rfl⟩, by rw [← HN0.out]; omega, by rw [← HN0.out]; omega, HLP.out (by trivial), ?_, HVP.out (by trivial)⟩⟩, below_setRow HB9.out (by omega)⟩
        rw [← HEE.out, ← HN0.out]
        exact HSP.out (by trivial)
      | true =>
        go_wp2_with (first | (refine l_loadG 4 _ rfl (.pointer (some ⟨g3, 113, none⟩)) rfl _ HLT.out (by kernel_rfl) ?_; refine Hid.out ?_))
        refine Lib.hid ?_
        go_upto_region 17 with fail
        obtain ⟨sq, hsq⟩ : ∃ l, l = f.seq := ⟨_, rfl⟩
        obtain ⟨tx, htx⟩ : ∃ l, l = f.text := ⟨_, rfl⟩
        obtain ⟨X1, hX1⟩ : ∃ X1, X1 = X.setIfInBounds 101 (.int .i64 sq) := ⟨_, rfl⟩
        have HX1E : Hid (X1 = seenL n root (n0 + (R.length : Int)) E n0 ix true sq (.slice none 0 0)) := Lib.hid (by rw [hX1, HXE.out, seenL_set1 HRL.out HEL.out HIXL.out])
        have HX101 : Hid (X[101]? = some (.int .i64 0)) := Lib.hid (by rw [HXE.out]; exact (seenL_at HRL.out HEL.out HIXL.out).2.2.2.1)
        have HX102 : Hid (X1[102]? = some (.slice none 0 0)) := Lib.hid (by rw [HX1E.out]; exact (seenL_at HRL.out HEL.out HIXL.out).2.2.2.2)
        have hg14 := lt_of_heap HRX.out
        have hg39 := lt_of_heap HR39.out
        have HC114 : Hid (F[114]? = some (.int .i64 sq)) := Lib.hid (by rw [hsq]; exact HF2.out.c114)
        have HC115 : Hid (F[115]? = some (.slice qv tx.length cv)) := Lib.hid (by rw [htx]; exact HF2.out.c115)
        have HTXR : Hid (Rd w2 1 (.slice qv tx.length cv) tx.length (bys tx)) := Lib.hid (by rw [htx]; exact HF2.out.textR)
        have HTXL : Hid (tx.length ≤ 1000000) := Lib.hid (by rw [htx]; exact HF2.out.ok.textL)
        have HSQ := Lib.hid hsq
        have HTX := Lib.hid htx
        have HX1 := Lib.hid hX1
        clear hsq htx hX1 HLT
        refine Re.region (fun k => k < w9.heap.size ∧ k ≠ g14) 9 [⟨4, [], [], some (fun _ pj => .slice pj.q tx.length pj.c), fun _ pj _ y => (∀ k, (Value.slice pj.q tx.length pj.c).ownBlock = some k → w9.heap.size ≤ k) ∧ Rd y 1 (.slice pj.q tx.length pj.c) tx.length (bys tx), Re.free, []⟩, ⟨6, [], [], some (fun _ _ => undef), fun _ _ F y => F g14 ∧ y.heap[g14]? = some (.cells X1 50 (0, 0)), (· = g14), []⟩, ⟨8, [4, 6], [6], some (fun _ _ => undef), fun p _ _ y => y.heap[g14]? = some (.cells (X1.setIfInBounds 102 (.slice (p 4).q tx.length (p 4).c)) 50 (0, 0)), Re.free, []⟩] [4, 8] (by kernel_rfl) (Re.own_one (i := 6) hg14 (by intro s hs; simp only [List.mem_cons, List.not_mem_nil, or_false] at hs; rcases hs with rfl | rfl | rfl <;> first | exact .inl rfl | exact .inr ⟨rfl, rfl⟩)) (by kernel_rfl) ?_; intro p; simp only [List.take, List.drop]
        iterate 1 (refine Re.rK rfl rfl ?_; intro K hK; apply Exists.intro; refine ⟨?_, ?_⟩; (focus (intro x hx;  go_simp; (first | (fail) | ((try go_bits); (try go_simp); (try rfl))))); go_simp; refine hK _ ?_; clear hK K)
        refine Re.r_load rfl rfl _ _ rfl (.int .i64 sq) (fun x hx => load_rowI ((cell_of_row _ _ _ _ _ _ ((hx.block g3 (.inl ⟨hg39, by omega⟩)).trans HR39.out)).trans HC114.out)) ?_
        intro K hK; go_simp; refine hK _ ?_; clear hK K
        iterate 1 (refine Re.rK rfl rfl ?_; intro K hK; apply Exists.intro; refine ⟨?_, ?_⟩; (focus (intro x hx;  go_simp; (first | (fail) | ((try go_bits); (try go_simp); (try rfl))))); go_simp; refine hK _ ?_; clear hK K)
        refine Re.r_load rfl rfl _ _ rfl (.slice qv tx.length cv) (fun x hx => load_rowU ((cell_of_row _ _ _ _ _ _ ((hx.block g3 (.inl ⟨hg39, by omega⟩)).trans HR39.out)).trans HC115.out)) ?_
        intro K hK; go_simp; refine hK _ ?_; clear hK K
        refine Re.cK rfl rfl rfl ?_ ?_
        · intro x Fs hx ho hg K' hK'
          have hbx := same_bel hx hs8 HB29.out.size
          have hxs : w9.heap.size ≤ x.heap.size := hx.size
          have HCL := Lib.hid (Ten.clone_any qv cv tx x (HTXR.out.below (HB29.out.trans hbx)) (Nat.le_trans HTXL.out (by decide)))
          clear hbx hg ho hx
          go_wp2_with fail
          refine HCL.out.mono ?_
          rintro e x' ⟨q', c', rfl, how, hb⟩
          have hlo : ∀ k, (Value.slice q' tx.length c').ownBlock = some k → x.heap.size ≤ k ∧ k < x'.heap.size := fun k hk => how.lt k hk
          have hrd := Rd.of_ow how
          go_wp2_with fail
          exact hK' ⟨q', c', undef⟩ x' (Rc.Eff.of_below hb _) (fun y hy => ⟨fun k hk => Nat.le_trans hxs (hlo k hk).1, hrd.at hy.size (fun k hk => hy.block k (hlo k hk).2 (.inr (.inr (hlo k hk))))⟩)
        intro K hK; go_simp; refine hK _ ?_; clear hK K
        iterate 1 (refine Re.rK rfl rfl ?_; intro K hK; apply Exists.intro; refine ⟨?_, ?_⟩; (focus (intro x hx;  go_simp; (first | (fail) | ((try go_bits); (try go_simp); (try rfl))))); go_simp; refine hK _ ?_; clear hK K)
        refine Re.cK rfl rfl rfl ?_ ?_
        · intro x Fs hx ho hg K' hK'
          have hrx := (ho g14 rfl).trans HRX.out
          have d101 : x.cell? ⟨g14, 101, none⟩ = some (.int .i64 0) := (cell_of_row _ _ _ _ _ _ hrx).trans HX101.out
          have f101 : x.frozen? ⟨g14, 101, none⟩ = false := frozen_of_row _ _ _ _ _ hrx
          obtain ⟨x2, hx2⟩ : ∃ x2, x2 = x.setCell ⟨g14, 101, none⟩ (.int .i64 sq) := ⟨_, rfl⟩
          have hr2 : x2.heap[g14]? = some (.cells X1 50 (0, 0)) := by
            rw [hx2, setCell_eq_setRow x g14 101 _ _ _ _ hrx, HX1.out]
            exact setRow_heap x g14 _ _ _ _ hrx
          have hg2 : x.grownBy x2 (some g14) := by rw [hx2]; exact grown_setCell _ _ _ _
          have HX2' := Lib.hid hx2
          have HR2' := Lib.hid hr2
          have HG2 := Lib.hid hg2
          clear hrx hx2 hr2 hg2
          go_wp2_with (rw [← HX2'.out])
          exact hK' Rc.dflt x2 ⟨HG2.out.os, HG2.out.tape, HG2.out.output, HG2.out.size, fun k hk hn => HG2.out.block k hk (fun e => hn (.inr (by cases e; rfl)))⟩ (fun y hy => ⟨.inl (.inr rfl), (hy.block g14 (lt_of_heap HR2'.out) (.inr (.inl (.inr rfl)))).trans HR2'.out⟩)
        intro K hK; go_simp; refine hK _ ?_; clear hK K
        iterate 1 (refine Re.rK rfl rfl ?_; intro K hK; apply Exists.intro; refine ⟨?_, ?_⟩; (focus (intro x hx;  go_simp; (first | (fail) | ((try go_bits); (try go_simp); (try rfl))))); go_simp; refine hK _ ?_; clear hK K)
        refine Re.cK rfl rfl rfl ?_ ?_
        · intro x Fs hx ho hg K' hK'
          obtain ⟨hF, hrx⟩ : Fs 6 g14 ∧ x.heap[g14]? = some (.cells X1 50 (0, 0)) := hg.2.1
          have d102 : x.cell? ⟨g14, 102, none⟩ = some (.slice none 0 0) := (cell_of_row _ _ _ _ _ _ hrx).trans HX102.out
          have f102 : x.frozen? ⟨g14, 102, none⟩ = false := frozen_of_row _ _ _ _ _ hrx
          obtain ⟨x2, hx2⟩ : ∃ x2, x2 = x.setCell ⟨g14, 102, none⟩ (.slice (p 4).q tx.length (p 4).c) := ⟨_, rfl⟩
          have hr2 : x2.heap[g14]? = some (.cells (X1.setIfInBounds 102 (.slice (p 4).q tx.length (p 4).c)) 50 (0, 0)) := by
            rw [hx2, setCell_eq_setRow x g14 102 _ _ _ _ hrx]
            exact setRow_heap x g14 _ _ _ _ hrx
          have hg2 : x.grownBy x2 (some g14) := by rw [hx2]; exact grown_setCell _ _ _ _
          have hk2 := hK' Rc.dflt x2 ⟨hg2.os, hg2.tape, hg2.output, hg2.size, fun k hk hn => hg2.block k hk (fun e => hn (.inl ⟨6, by simp, by cases e; exact hF⟩))⟩ (fun y hy => (hy.block g14 (lt_of_heap hr2) (.inr (.inl (.inl ⟨6, by simp, hF⟩)))).trans hr2)
          have HX2' := Lib.hid hx2
          have HK2 := Lib.hid hk2
          clear hrx hx2 hr2 hg2 hk2 hg hx ho hF hK'
          go_wp2_with (rw [← HX2'.out])
          exact HK2.out
        intro K hK; go_simp; refine hK _ ?_; clear hK K
        refine Re.done fun x Fs hx hg => ?_
        obtain ⟨q4, hq4⟩ : ∃ q, q = (p 4).q := ⟨_, rfl⟩
        obtain ⟨c4, hc4⟩ : ∃ c, c = (p 4).c := ⟨_, rfl⟩
        obtain ⟨hfr, hrt⟩ : (∀ k, (Value.slice (p 4).q tx.length (p 4).c).ownBlock = some k → w9.heap.size ≤ k) ∧ Rd x 1 (.slice (p 4).q tx.length (p 4).c) tx.length (bys tx) := hg.1
        have hr9 : x.heap[g14]? = some (.cells (X1.setIfInBounds 102 (.slice (p 4).q tx.length (p 4).c)) 50 (0, 0)) := hg.2.1
        rw [← hq4, ← hc4] at hrt hr9 hfr
        obtain ⟨X2, hX2⟩ : ∃ X2, X2 = X1.setIfInBounds 102 (.slice q4 tx.length c4) := ⟨_, rfl⟩
        rw [← hX2] at hr9
        have HX2E : Hid (X2 = seenL n root (n0 + (R.length : Int)) E n0 ix true sq (.slice q4 tx.length c4)) := Lib.hid (by rw [hX2, HX1E.out, seenL_set2 HRL.out HEL.out HIXL.out])
        have hbx := same_bel hx hs8 HB29.out.size
        have HBX : Hid (Below w.heap.size w x) := Lib.hid (HB2.out.trans ((HB29.out.trans hbx).mono HB2.out.size))
        have HR2X : Hid (x.heap[w.heap.size + 1 + 1]? = some (.cells seenO 50 (0, 0))) := Lib.hid ((hx.block _ ⟨lt_of_heap HR29.out, by omega⟩).trans HR29.out)
        have hs2 : X2.size = 103 := by rw [HX2E.out]; exact seenL_size HRL.out HEL.out HIXL.out
        have HIX2 : Hid ((Tryz.prog.info? 50).map (·.size) = some X2.size) := Lib.hid (by rw [hs2]; exact infoSeen)
        have HSI2 : Hid (seenO.size = X2.size) := Lib.hid (by rw [hs2, seenO_size])
        have HOX2 : Hid (X2.all (·.oneCell') = true) := Lib.hid (by rw [HX2E.out]; exact seenL_one rfl)
        have hlX : Hid ((Instr.loadAt 50 (.pointer (some ⟨g14, 0, none⟩))).run Tryz.prog x = .ok (.agg X2) x) := Lib.hid ((PartAt.self X2).load hr9 Tryz.underlying50 rfl HIX2.out)
        have HRT : Hid (Rd (x.setRow (w.heap.size + 1 + 1) X2) 1 (.slice q4 tx.length c4) tx.length (bys tx)) := Lib.hid (hrt.at (by simp [World.setRow]) (fun k hk => setRow_heap_ne (fun e => by have := hfr k hk; have := lt_of_heap HR29.out; omega)))
        clear hr9 hg hx hrt hfr hbx hX2 hq4 hc4
        go_wp2_with fail
        refine NoPanic.normal ?_
        go_wp2_with (first | (refine l_load rfl _ _ rfl _ hlX.out ?_) | (refine Rg.store_row rfl 50 _ _ rfl (w.heap.size + 1 + 1) rfl 50 seenO X2 rfl HR2X.out HIX2.out HSI2.out HOX2.out ?_))
        refine bodyPost_ret (v := .tuple #[.agg X2, .int .i64 0]) (Fld.results_cell_slotE (P := Tryz.prog) rfl _ _ (w.heap.size + 1 + 1) 50 X2 (0, 0) _ _ rfl (setRow_heap _ _ _ _ 50 _ HR2X.out) rfl Tryz.underlying50 rfl HIX2.out) rfl ⟨⟨n, root, n0 + (R.length : Int), E, n0, ix, true, sq, q4, tx, c4, 0, by rw [HX2E.out], HRL.out, HEL.out, HIXL.out, HRT.out, HTXL.out, fun _ => ⟨rfl, by rw [HN0.out], HEE.out, HN0.out, HIXE.out, HTHE.out, fun _ => ⟨HSQ.out, HTX.out⟩, fun h => (by rw [← HTHE.out] at h; cases h), by rw [← HN0.out]; omega, by rw [← HN0.out]; omega, HLP.out (by trivial), ?_, HVP.out (by trivial)⟩⟩, below_setRow HBX.out (by omega)⟩
        rw [← HEE.out, ← HN0.out]
        exact HSP.out (by trivial)
end Stn
end Go.Proofs.YtmonkggoilhngaaGreatDoor
/- The index of an answer to a look is asked for: it ends; what two Seens tell gives a pair; the texts' lengths. Conditions: none beyond the bounds of bytes. -/
namespace Go.Proofs.YtmonkggoilhngaaGreatDoor
open Go.RowKit Bits Mem Sha
namespace Stn
open Ref (RdL All32 linkText nextLink firstLink tin tout)
theorem any_move {σ σ' : Ab.S} {A : Array Value} (h : Ab.CT σ A.toList Ab.ansAny) : Ab.CT σ' A.toList Ab.ansAny := by
  refine ⟨h.1, fun i κ hi => ?_⟩
  obtain ⟨v, h1, h2⟩ := h.2 i κ hi
  refine ⟨v, h1, ?_⟩
  rw [Ab.ansAny, List.getElem?_map] at hi
  obtain ⟨κ', _, rfl⟩ := Option.map_eq_some_iff.1 hi
  unfold Ab.toAny at h2 ⊢
  split
  · exact h2
  · rename_i hne
    revert h2
    split
    · exact fun h2 => absurd rfl (hne ·)
    · exact fun h2 => h2
theorem ixends_any {w : World} (hT : Ab.WT Ab.gtL Ab.tabS w) {A : Array Value} (hA : Ab.CT Ab.tabS A.toList Ab.ansAny) {q : Option Addr} {c : Nat} {X : List UInt8} (hx : Rd w 1 (.slice q X.length c) X.length (bys X)) (hq : Ab.CellsAt w q) (hl : X.length ≤ 1000000) :
    Calls Tryz.prog 26 #[.agg A, .slice q X.length c] w fun e w' => ∃ z : Int, e = .returned (.int .i64 z) ∧ Below w.heap.size w w' := by
  obtain ⟨σ, h1, h2, h3⟩ := Ab.arg_open hT hx hq hl
  refine (Ab.vix_calls h1 (Ab.VTs.mk2 ⟨A, rfl, any_move hA⟩ h2)).2.mono ?_
  rintro _ w' ⟨v, rfl, σ', g1, g2, z, rfl, _⟩
  exact ⟨z, rfl, g1.ro h3⟩
theorem sees_pair {id : List UInt8} {f f' : Foun} {R R' S S' : List (List UInt8)} {t t' : Bool} {k k' v v' root root' rt rt' : List UInt8} {ep ep' : Int} {lk lk' : List UInt8} {at0 at1 : Int} {ix ix' : List UInt8} {pr pr' : Bool} {vr vr' : Int} {vl vl' : List UInt8}
    (hf : f.Ok) (hf' : f'.Ok) (hR : All32 R) (hR' : All32 R') (hRl : R.length ≤ 1000000) (hRl' : R'.length ≤ 1000000) (hS : All32 S) (hS' : All32 S')
    (h : seesP id f R S t k v root rt ep lk at0 ix pr vr vl) (h' : seesP id f' R' S' t' k' v' root' rt' ep' lk' at1 ix' pr' vr' vl') (hr : rt = rt')
    (hd : ¬ (ep = ep' ∧ lk = lk' ∧ (at0 ≠ at1 ∨ ix ≠ ix' ∨ (pr = pr' ∧ vr = vr' ∧ vl = vl')))) : Up.Pair (lookT id f R S t k v) (lookT id f' R' S' t' k' v') := by
  obtain ⟨rfl, e1, e2, e3, e4, e5, e6, e7, b0, b1, l1, s1, v1⟩ := h
  obtain ⟨rfl, d1, d2, d3, d4, d5, d6, d7, a0, a1, m1, s2, v2⟩ := h'
  subst hr
  refine looks_pair hf hf' b0 b1 a0 a1 hR hR' hRl hRl' hS hS' l1 m1 s1 s2 v1 v2 (fun ⟨n1, n2, n3⟩ => hd ⟨by rw [e1, d1, n1], by rw [e2, d2, n2], ?_⟩)
  rcases n3 with h | h | ⟨h, hh⟩
  · exact .inl (by rw [e3, d3]; exact h)
  · exact .inr (.inl (by rw [e4, d4]; exact h))
  · refine .inr (.inr ⟨by rw [e5, d5, h], ?_⟩)
    cases hth : f.there with
    | true =>
      have hth' : f'.there = true := h ▸ hth
      obtain ⟨x1, x2⟩ := hh hth
      rw [(e6 hth).1, (e6 hth).2, (d6 hth').1, (d6 hth').2]
      exact ⟨x1, x2⟩
    | false =>
      have hth' : f'.there = false := h ▸ hth
      rw [(e7 hth).1, (e7 hth).2, (d7 hth').1, (d7 hth').2]
      exact ⟨rfl, rfl⟩
theorem link_short {id : List UInt8} : ∀ (R : List (List UInt8)) (n : Int) (l : List UInt8), All32 R → l.length = 32 → ∀ t ∈ lksT id n l R, t.length ≤ id.length + 75
  | [], _, _, _, _, t, ht => by cases ht
  | r :: R, n, l, hR, hl, t, ht => by
    rcases List.mem_cons.1 ht with rfl | ht
    · exact Nat.le_of_eq (Ref.linkText_length _ _ _ _ (hR r (List.mem_cons_self ..)) hl)
    · exact link_short R _ _ (fun x hx => hR x (List.mem_cons_of_mem _ hx)) (sha_length _) t ht
theorem look_short {id : List UInt8} {f : Foun} {R S : List (List UInt8)} {t : Bool} {k v : List UInt8} (hi : id.length ≤ 1000) (hf : f.Ok) (hR : All32 R) (hS : All32 S) (hk : k.length = 32) (hv : v.length = 32) : ∀ x ∈ lookT id f R S t k v, x.length ≤ 1100000 := by
  intro x hx
  unfold lookT at hx
  rcases List.mem_append.1 hx with hx | hx
  · rcases List.mem_append.1 hx with hx | hx
    · rcases List.mem_append.1 hx with hx | hx
      · rcases List.mem_cons.1 hx with rfl | hx
        · unfold firstT
          split
          · rw [List.length_cons]; omega
          · rw [Ref.linkText_length _ _ _ _ hf.rootL hf.aheadL]; omega
        · have := link_short R _ _ hR hf.linkL x hx
          omega
      · have := standT_short (lksL_length id R f.n f.link hf.linkL) hS hk hv x hx
        omega
    · have := wayT_short (bit f.ix) f.S _ (endT_65 f.pt f.pk f.pv hf.pkL hf.pvL) hf.sums x hx
      omega
  · unfold cmtT at hx
    split at hx
    · have h1 := Ref.tin_length f.op f.ix f.seq f.text hf.opL
      have h2 := Ref.tout_length f.op f.ix f.seq f.text hf.opL
      have h3 := hf.textL
      have h4 := hf.ixL
      simp only [List.mem_cons, List.not_mem_nil, or_false] at hx
      rcases hx with rfl | rfl <;> omega
    · cases hx
theorem look_length {id : List UInt8} {f : Foun} {R S : List (List UInt8)} {t : Bool} {k v : List UInt8} (hf : f.Ok) (hR : R.length ≤ 256) (hS : S.length ≤ 256) : (lookT id f R S t k v).length ≤ 1000 := by
  have h1 := standT_length false (f.n + R.length) (lksL id f.n f.link R) (bit (sha (5 :: id))) S (endT t k v)
  have h2 := wayT_length (bit f.ix) f.S (endT f.pt f.pk f.pv)
  have h3 := lksT_length id R f.n f.link
  have h4 := hf.few
  have h5 : (cmtT f).length ≤ 2 := by unfold cmtT; split <;> simp
  unfold lookT
  simp only [List.length_append, List.length_cons]
  omega
end Stn
end Go.Proofs.YtmonkggoilhngaaGreatDoor

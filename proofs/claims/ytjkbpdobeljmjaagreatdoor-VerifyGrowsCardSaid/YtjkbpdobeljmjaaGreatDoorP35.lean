/- A part of the proof. Plain; no condition. -/
import Derived.Test.YtjkbpdobeljmjaaGreatDoorP31
import Derived.Test.YtjkbpdobeljmjaaGreatDoorP34
import Derived.Test.YtjkbpdobeljmjaaGreatDoorP11
import Derived.Test.YtjkbpdobeljmjaaGreatDoorP17
import Derived.Test.YtjkbpdobeljmjaaGreatDoorP33
import Derived.Test.YtjkbpdobeljmjaaGreatDoorP12
/- verify.Grow of an answer to a growth. Conditions: the tables lie. -/
namespace Go.Proofs.YtjkbpdobeljmjaaGreatDoor
set_option linter.unusedVariables false
set_option linter.unusedSimpArgs false
open Go.RowKit Bits Mem Sha
namespace Gr
open Stn (PartAt info32r)
open Ref (RdL OwL All32 treeS subS chkC checkC_any load_whole)
set_option maxRecDepth 100000 in
set_option maxHeartbeats 4000000 in
theorem grow_any (f t : Nat) (old R : List UInt8) (A : Array Value) (q : Option Addr) (c : Nat) (P : List (List UInt8)) (w : World) (hS : Sha.Tabs w) (hg : GAns A q c P.length R) (hp : RdL w (.slice q P.length c) P) (hP : P.length ≤ 1000) (ho : old.length = 32) (hR : R.length = 32) (ht : t ≤ 1000) :
    Calls Tryz.prog 8 #[.int .i64 f, .int .i64 t, .agg (bysA old), .agg A] w fun e w' => e = .returned (.int .i64 (chkC f t P old R)) ∧ Below w.heap.size w w' := by
  obtain ⟨w1, hw1⟩ : ∃ w1, w1 = (w.alloc (.cells (bysA old) 22)).alloc (.cells A 50) := ⟨_, rfl⟩
  have hb1 : Below w.heap.size w w1 := by rw [hw1]; exact ((Below.refl _ _).alloc (Nat.le_refl _) _).alloc (by simp) _
  have hr1 : w1.heap[w.heap.size]? = some (.cells (bysA old) 22 (0, 0)) := by rw [hw1]; exact (Rg.heap_alloc_past _ _ _ (by simp)).trans (heap_alloc_new w _)
  have ha1 : w1.heap[w.heap.size + 1]? = some (.cells A 50 (0, 0)) := by rw [hw1]; exact Rg.heap_alloc_at _ _ _ (by simp)
  have c0 : w1.cell? ⟨w.heap.size + 1, 0, none⟩ = some (.int .i64 12) := (cell_of_row _ _ _ _ _ _ ha1).trans hg.kind
  have c1 : w1.cell? ⟨w.heap.size + 1, 1, none⟩ = some (.int .i64 0) := (cell_of_row _ _ _ _ _ _ ha1).trans hg.err
  have c645 : w1.cell? ⟨w.heap.size + 1, 645, none⟩ = some (.slice q P.length c) := (cell_of_row _ _ _ _ _ _ ha1).trans hg.sums
  have HLO := Lib.hid (load_whole hr1 ho)
  have HLR := Lib.hid (hg.log.load ha1 Tryz.underlying22 rfl (info32r R hR))
  have HCK := Lib.hid (checkC_any f t q c P old R w1 (hS.below hb1) (hp.below hb1) hP ho hR (by omega))
  obtain ⟨E, hE⟩ : ∃ E, E = chkC f t P old R := ⟨_, rfl⟩
  rw [← hE] at HCK ⊢
  have HB1 := Lib.hid hb1
  have HW1 := Lib.hid hw1
  clear hS hg hp ho hR hw1 hb1 hr1 ha1 hE
  go_enter Tryz.func8, Tryz.ntmps8
  go_upto_region 1 with fail
  rw [← HW1.out]
  go_wp2_with (first | (refine l_loadP rfl _ _ rfl (.pointer (some ⟨w.heap.size, 0, none⟩)) rfl (.agg (bysA old)) HLO.out ?_) | (refine l_loadP rfl _ _ rfl (.pointer (some ⟨w.heap.size + 1, 613, none⟩)) rfl (.agg (bysA R)) HLR.out ?_))
  refine HCK.out.mono ?_
  rintro e w2 ⟨rfl, hb2⟩
  have HB2 := Lib.hid (HB1.out.trans (hb2.mono HB1.out.size))
  clear hb2
  go_wp2_with fail
  go_ret
  exact ⟨rfl, HB2.out⟩
end Gr
end Go.Proofs.YtjkbpdobeljmjaaGreatDoor

/- Answers that are none of the kind asked for: Look, Stand and Grow tell that; the law's verifies. No condition. -/
namespace Go.Proofs.YtjkbpdobeljmjaaGreatDoor
set_option linter.unusedVariables false
set_option linter.unusedSimpArgs false
open Go.RowKit Bits Mem Sha
namespace Gr
open Stn (PartAt info32r)
theorem infoFound : (Tryz.prog.info? 39).map (·.size) = some 343 := by kernel_rfl
theorem infoSeen : (Tryz.prog.info? 79).map (·.size) = some 103 := by kernel_rfl
noncomputable def seenO : Array Value := Tryz.zeroCells79
theorem seenO_size : seenO.size = 103 := by decide +kernel
theorem seenO_one : seenO.all (·.oneCell') = true := by decide +kernel
theorem zeroL : Tryz.zeroCells79 = seenO := rfl
noncomputable def zA : Array Value := Tryz.zeroCells50
theorem zA_size : zA.size = 646 := by decide +kernel
def cut (A : Array Value) (o n : Nat) : Array Value := A.extract o (o + n)
theorem cut_size {A : Array Value} {o n : Nat} (h : o + n ≤ A.size) : (cut A o n).size = n := by unfold cut; rw [Array.size_extract]; omega
theorem cut_get {A : Array Value} {o n i : Nat} (hi : i < n) : (cut A o n)[i]? = A[o + i]? := by
  unfold cut
  rw [Array.getElem?_extract]
  split
  · rfl
  · rename_i h
    rw [Array.getElem?_eq_none (by omega)]
theorem cut_part (A : Array Value) (o n : Nat) : PartAt A o (cut A o n) := fun j v hv => by
  have hj := (Array.getElem?_eq_some_iff.1 hv).1
  have : j < n := by unfold cut at hj; rw [Array.size_extract] at hj; omega
  rw [← cut_get this]
  exact hv
set_option maxRecDepth 100000 in
set_option maxHeartbeats 4000000 in
theorem look_none {pub : List UInt8} (hp : pub.length = 32) {A : Array Value} {kk : Int} (hA : A.size = 646) (h1 : A.all (·.oneCell') = true) (hk : A[0]? = some (.int .i64 kk)) (hn : kk ≠ 6) (v1 v2 : Value) (w : World) :
    Calls Tryz.prog 15 #[.agg (bysA pub), v1, v2, .agg A] w fun e w' => e = .returned (.tuple #[.agg seenO, .int .i64 2]) ∧ Below w.heap.size w w' := by
  obtain ⟨F, hF⟩ : ∃ F, F = cut A 3 343 := ⟨_, rfl⟩
  have hFs : F.size = 343 := by rw [hF]; exact cut_size (by omega)
  have hFp : PartAt A 3 F := by rw [hF]; exact cut_part _ _ _
  obtain ⟨w1, hw1⟩ : ∃ w1, w1 = ((w.alloc (.cells (bysA pub) 22)).alloc (.cells A 50)).alloc (.cells seenO 79) := ⟨_, rfl⟩
  have hb1 : Below w.heap.size w w1 := by rw [hw1]; exact (((Below.refl _ _).alloc (Nat.le_refl _) _).alloc (by simp) _).alloc (by simp; try omega) _
  have hr1 : w1.heap[w.heap.size + 1]? = some (.cells A 50 (0, 0)) := by rw [hw1]; exact (Rg.heap_alloc_past _ _ _ (by simp)).trans (Rg.heap_alloc_at _ _ _ (by simp))
  have hr2 : w1.heap[w.heap.size + 1 + 1]? = some (.cells seenO 79 (0, 0)) := by rw [hw1]; exact Rg.heap_alloc_at _ _ _ (by simp)
  obtain ⟨w2, hw2⟩ : ∃ w2, w2 = w1.alloc (.cells F 39) := ⟨_, rfl⟩
  have hb12 : Below w1.heap.size w1 w2 := by rw [hw2]; exact (Below.refl _ _).alloc (Nat.le_refl _) _
  have hr12 := Rp.row_le hb12 hr1
  have c0 : w2.cell? ⟨w.heap.size + 1, 0, none⟩ = some (.int .i64 kk) := (cell_of_row _ _ _ _ _ _ hr12).trans hk
  have HLF : Hid ((Instr.loadAt 39 (.pointer (some ⟨w.heap.size + 1, 3, none⟩))).run Tryz.prog w1 = .ok (.agg F) w1) := Lib.hid (hFp.load hr1 Tryz.underlying39 rfl (by rw [hFs]; exact infoFound))
  have HIF : Hid ((Tryz.prog.info? 39).map (·.size) = some F.size) := Lib.hid (by rw [hFs]; exact infoFound)
  have HSF : Hid ((Tryz.zeroCells39).size = F.size) := Lib.hid (by rw [hFs]; decide +kernel)
  have hone : F.all (·.oneCell') = true := by
    rw [Array.all_eq_true_iff_forall_mem] at h1 ⊢
    intro v hv
    obtain ⟨j, hj, rfl⟩ := Array.mem_iff_getElem.1 hv
    exact h1 _ (Array.mem_of_getElem? (hFp j _ (Array.getElem?_eq_getElem hj)))
  have HOF := Lib.hid hone
  have HB2 := Lib.hid (hb1.trans (hb12.mono hb1.size))
  have HR2 := Lib.hid (Rp.row_le hb12 hr2)
  have HW1 := Lib.hid hw1
  have HW2 := Lib.hid hw2
  have HI0 : Hid ((Tryz.prog.info? 79).map (·.size) = some seenO.size) := Lib.hid (by rw [seenO_size]; exact infoSeen)
  have HO0 := Lib.hid seenO_one
  have e1 : (kk == 6) = false := by simpa using hn
  have e2 : (kk != 6) = true := by simpa using hn
  clear hF hFs hFp hw1 hw2 hb1 hb12 hr1 hr2 hr12 hA h1 hk hn hone hp
  go_enter Tryz.func15, Tryz.ntmps15
  go_upto_region 1 with fail
  rw [zeroL, ← HW1.out]
  go_upto_region 2 with (first | (refine l_load rfl _ _ rfl _ HLF.out ?_) | (refine Rg.store_row_new rfl 39 _ _ rfl w1.heap.size rfl rfl 39 _ F rfl HIF.out HSF.out HOF.out ?_))
  rw [← HW2.out]
  clear HW1 HW2 HLF
  go_wp2_with (first | (refine l_buildT rfl 79 _ rfl seenO seenO0 ?_) | (refine Rg.store_row rfl 79 _ _ rfl (w.heap.size + 1 + 1) rfl 79 seenO seenO rfl HR2.out HI0.out rfl HO0.out ?_))
  refine bodyPost_ret (v := .tuple #[.agg seenO, .int .i64 2]) (Fld.results_cell_slotE (P := Tryz.prog) rfl _ _ (w.heap.size + 1 + 1) 79 seenO (0, 0) _ _ rfl (setRow_heap _ _ _ _ 79 _ HR2.out) rfl Tryz.underlying79 rfl HI0.out) rfl ⟨rfl, Stn.below_setRow HB2.out (by omega)⟩
set_option maxRecDepth 100000 in
set_option maxHeartbeats 4000000 in
theorem stand_none {pub : List UInt8} {A : Array Value} {kk : Int} (hk : A[0]? = some (.int .i64 kk)) (hn : kk ≠ 11) (v1 : Value) (w : World) :
    Calls Tryz.prog 16 #[.agg (bysA pub), v1, .agg A] w fun e w' => e = .returned (.tuple #[.agg seenO, .int .i64 2]) ∧ Below w.heap.size w w' := by
  obtain ⟨w1, hw1⟩ : ∃ w1, w1 = ((w.alloc (.cells (bysA pub) 22)).alloc (.cells A 50)).alloc (.cells seenO 79) := ⟨_, rfl⟩
  have hb1 : Below w.heap.size w w1 := by rw [hw1]; exact (((Below.refl _ _).alloc (Nat.le_refl _) _).alloc (by simp) _).alloc (by simp; try omega) _
  have hr1 : w1.heap[w.heap.size + 1]? = some (.cells A 50 (0, 0)) := by rw [hw1]; exact (Rg.heap_alloc_past _ _ _ (by simp)).trans (Rg.heap_alloc_at _ _ _ (by simp))
  have HR2 : Hid (w1.heap[w.heap.size + 1 + 1]? = some (.cells seenO 79 (0, 0))) := Lib.hid (by rw [hw1]; exact Rg.heap_alloc_at _ _ _ (by simp))
  have c0 : w1.cell? ⟨w.heap.size + 1, 0, none⟩ = some (.int .i64 kk) := (cell_of_row _ _ _ _ _ _ hr1).trans hk
  have HB1 := Lib.hid hb1
  have HW1 := Lib.hid hw1
  have HI0 : Hid ((Tryz.prog.info? 79).map (·.size) = some seenO.size) := Lib.hid (by rw [seenO_size]; exact infoSeen)
  have HO0 := Lib.hid seenO_one
  have e1 : (kk == 11) = false := by simpa using hn
  have e2 : (kk != 11) = true := by simpa using hn
  clear hw1 hb1 hr1 hk hn
  go_enter Tryz.func16, Tryz.ntmps16
  go_upto_region 1 with fail
  rw [zeroL, ← HW1.out]
  go_wp2_with (first | (refine l_buildT rfl 79 _ rfl seenO seenO0 ?_) | (refine Rg.store_row rfl 79 _ _ rfl (w.heap.size + 1 + 1) rfl 79 seenO seenO rfl HR2.out HI0.out rfl HO0.out ?_))
  refine bodyPost_ret (v := .tuple #[.agg seenO, .int .i64 2]) (Fld.results_cell_slotE (P := Tryz.prog) rfl _ _ (w.heap.size + 1 + 1) 79 seenO (0, 0) _ _ rfl (setRow_heap _ _ _ _ 79 _ HR2.out) rfl Tryz.underlying79 rfl HI0.out) rfl ⟨rfl, Stn.below_setRow HB1.out (by omega)⟩
set_option maxRecDepth 100000 in
set_option maxHeartbeats 4000000 in
theorem grow_none {old : List UInt8} {A : Array Value} {kk : Int} (hk : A[0]? = some (.int .i64 kk)) (hn : kk ≠ 12) (v1 v2 : Value) (w : World) :
    Calls Tryz.prog 8 #[v1, v2, .agg (bysA old), .agg A] w fun e w' => e = .returned (.int .i64 2) ∧ Below w.heap.size w w' := by
  obtain ⟨w1, hw1⟩ : ∃ w1, w1 = (w.alloc (.cells (bysA old) 22)).alloc (.cells A 50) := ⟨_, rfl⟩
  have hb1 : Below w.heap.size w w1 := by rw [hw1]; exact ((Below.refl _ _).alloc (Nat.le_refl _) _).alloc (by simp) _
  have hr1 : w1.heap[w.heap.size + 1]? = some (.cells A 50 (0, 0)) := by rw [hw1]; exact Rg.heap_alloc_at _ _ _ (by simp)
  have c0 : w1.cell? ⟨w.heap.size + 1, 0, none⟩ = some (.int .i64 kk) := (cell_of_row _ _ _ _ _ _ hr1).trans hk
  have HB1 := Lib.hid hb1
  have HW1 := Lib.hid hw1
  have e1 : (kk == 12) = false := by simpa using hn
  have e2 : (kk != 12) = true := by simpa using hn
  clear hw1 hb1 hr1 hk hn
  go_enter Tryz.func8, Tryz.ntmps8
  go_upto_region 1 with fail
  rw [← HW1.out]
  go_wp2_with fail
  go_ret
  exact ⟨rfl, HB1.out⟩
theorem zA_one : zA.all (·.oneCell') = true := by decide +kernel
theorem zA_at : zA[0]? = some (.int .i64 0) := by kernel_rfl
set_option maxRecDepth 100000 in
set_option maxHeartbeats 4000000 in
theorem verifies_any (w : World) : Calls Tryz.prog 5 #[] w fun e w' => e = .returned (.bool true) ∧ Below w.heap.size w w' := by
  obtain ⟨A, hA⟩ : ∃ A, A = zA := ⟨_, rfl⟩
  have HZA : Hid (Tryz.zeroCells50 = A) := Lib.hid (by rw [hA]; rfl)
  have HLK : Hid (∀ x, Calls Tryz.prog 15 #[.agg (bysA zeros32), .slice none 0 0, .slice none 0 0, .agg A] x fun e w' => e = .returned (.tuple #[.agg seenO, .int .i64 2]) ∧ Below x.heap.size x w') := Lib.hid (fun x => by rw [hA]; exact look_none rfl zA_size zA_one zA_at (by decide) _ _ x)
  have HST : Hid (∀ x, Calls Tryz.prog 16 #[.agg (bysA zeros32), .slice none 0 0, .agg A] x fun e w' => e = .returned (.tuple #[.agg seenO, .int .i64 2]) ∧ Below x.heap.size x w') := Lib.hid (fun x => by rw [hA]; exact stand_none zA_at (by decide) _ x)
  have HGR : Hid (∀ x, Calls Tryz.prog 8 #[.int .i64 0, .int .i64 0, .agg (bysA zeros32), .agg A] x fun e w' => e = .returned (.int .i64 2) ∧ Below x.heap.size x w') := Lib.hid (fun x => by rw [hA]; exact grow_none zA_at (by decide) _ _ x)
  have HI0 : Hid ((Tryz.prog.info? 79).map (·.size) = some seenO.size) := Lib.hid (by rw [seenO_size]; exact infoSeen)
  have HSZ : Hid ((Tryz.zeroCells79).size = seenO.size) := Lib.hid (by rw [zeroL])
  have HO0 := Lib.hid seenO_one
  clear hA
  go_enter Tryz.func5, Tryz.ntmps5
  go_wp2_with fail
  rw [z32S, HZA.out]
  refine (HLK.out w).mono ?_
  rintro e w1 ⟨rfl, hb1⟩
  obtain ⟨w2, hw2⟩ : ∃ w2, w2 = w1.alloc (.cells seenO 79) := ⟨_, rfl⟩
  have hb2 : Below w1.heap.size w1 w2 := by rw [hw2]; exact (Below.refl _ _).alloc (Nat.le_refl _) _
  have HB2 := Lib.hid (hb1.trans (hb2.mono hb1.size))
  have HW2 := Lib.hid hw2
  clear hb1 hb2 hw2 HLK
  go_upto_region 2 with (refine Rg.store_row_new rfl 79 _ _ rfl w1.heap.size rfl rfl 79 _ seenO rfl HI0.out HSZ.out HO0.out ?_)
  rw [← HW2.out]
  clear HW2
  go_wp2_with fail
  rw [z32S, HZA.out]
  refine (HST.out w2).mono ?_
  rintro e w3 ⟨rfl, hb3⟩
  obtain ⟨w4, hw4⟩ : ∃ w4, w4 = w3.alloc (.cells seenO 79) := ⟨_, rfl⟩
  have hb4 : Below w3.heap.size w3 w4 := by rw [hw4]; exact (Below.refl _ _).alloc (Nat.le_refl _) _
  have hb34 := hb3.trans (hb4.mono hb3.size)
  have HB4 := Lib.hid (HB2.out.trans (hb34.mono HB2.out.size))
  have HW4 := Lib.hid hw4
  clear hb3 hb4 hb34 hw4 HST HB2
  go_upto_region 3 with (refine Rg.store_row_new rfl 79 _ _ rfl w3.heap.size rfl rfl 79 _ seenO rfl HI0.out HSZ.out HO0.out ?_)
  rw [← HW4.out]
  clear HW4
  go_wp2_with fail
  rw [z32S, HZA.out]
  refine (HGR.out w4).mono ?_
  rintro e w5 ⟨rfl, hb5⟩
  go_wp2_with fail
  go_ret
  exact ⟨rfl, HB4.out.trans (hb5.mono HB4.out.size)⟩
end Gr
end Go.Proofs.YtjkbpdobeljmjaaGreatDoor

/- The walks of the document's node and Sum of layer 16. -/
namespace Go.Proofs.YtjkbpdobeljmjaaGreatDoor
open Go.RowKit Bits Mem Sha
namespace Ref
@[go_sem] theorem bstr_append16 (a b : List UInt8) : (⟨a.toArray⟩ : ByteArray) ++ ⟨b.toArray⟩ = ⟨(a ++ b).toArray⟩ := by
  apply ByteArray.ext
  simp
end Ref
end Go.Proofs.YtjkbpdobeljmjaaGreatDoor

/- The walks of the document's both and CheckConsistency of layer 16. -/
namespace Go.Proofs.YtjkbpdobeljmjaaGreatDoor
open Go.RowKit Bits Mem Sha
namespace Ref
def refchkC (m n : Int) (T : List (List UInt8)) (old root : List UInt8) : Int :=
  if m < 0 ∨ n < m then 1 else if m = 0 then (if T = [] ∧ old = sha [] ∧ (0 < n ∨ root = old) then 0 else 17)
  else if (Rfc.both nodeS m.toNat n.toNat T true old []).2.2 = true ∧ (Rfc.both nodeS m.toNat n.toNat T true old []).1 = old ∧ (Rfc.both nodeS m.toNat n.toNat T true old []).2.1 = root then 0 else 17
end Ref
end Go.Proofs.YtjkbpdobeljmjaaGreatDoor

/- The walk of custumallaw16.fill. -/
namespace Go.Proofs.YtjkbpdobeljmjaaGreatDoor
open Go.RowKit Bits Mem Sha
namespace Ref
theorem u8_xor16 (a b : UInt8) : bits .xor .u8 (a.toNat : Int) (b.toNat : Int) = ((a.toNat ^^^ b.toNat : Nat) : Int) := by
  have h1 := a.toNat_lt
  have h2 := b.toNat_lt
  show IntKind.u8.wrap ((BitVec.ofInt 8 (a.toNat : Int) ^^^ BitVec.ofInt 8 (b.toNat : Int)).toNat : Int) = _
  have e : (BitVec.ofInt 8 (a.toNat : Int) ^^^ BitVec.ofInt 8 (b.toNat : Int)).toNat = a.toNat ^^^ b.toNat := by
    rw [BitVec.toNat_xor, BitVec.ofInt_natCast, BitVec.ofInt_natCast, BitVec.toNat_ofNat, BitVec.toNat_ofNat, Nat.mod_eq_of_lt (by omega), Nat.mod_eq_of_lt (by omega)]
  have h3 : a.toNat ^^^ b.toNat < 2 ^ 8 := Nat.xor_lt_two_pow (by omega) (by omega)
  rw [e, IntKind.wrap_u8']
  omega
@[go_sem] theorem u8_xor33 (a : UInt8) : bits .xor .u8 (a.toNat : Int) (33 : Int) = ((a.toNat ^^^ 33 : Nat) : Int) := u8_xor16 a 33
end Ref
end Go.Proofs.YtjkbpdobeljmjaaGreatDoor

/- The walk of custumallaw16.RfclogChecks. -/
namespace Go.Proofs.YtjkbpdobeljmjaaGreatDoor
open Go.RowKit Bits Mem Sha
namespace Ref
theorem ite_of_iff {α : Type} {p q : Prop} [Decidable p] [Decidable q] (h : p ↔ q) (a b : α) : (if p then a else b) = if q then a else b := by
  by_cases hp : p
  · rw [if_pos hp, if_pos (h.1 hp)]
  · rw [if_neg hp, if_neg (fun hq => hp (h.2 hq))]
theorem chkC_same (m n : Int) (P : List (List UInt8)) (old root : List UInt8) : refchkC m n P old root = chkC m n P old root := by
  unfold chkC refchkC
  by_cases h1 : m < 0 ∨ n < m
  · rw [if_pos h1, if_pos h1]
  · rw [if_neg h1, if_neg h1]
    by_cases h2 : m = 0
    · rw [if_pos h2, if_pos (Or.inl h2)]
      unfold shortA
      rw [if_pos h2]
    · by_cases h3 : m = n
      · subst h3
        rw [if_neg h2, if_pos (Or.inr rfl)]
        unfold shortA
        rw [if_neg h2]
        have hb : Rfc.both nodeS m.toNat m.toNat P true old [] = (old, old, decide (P = [])) := by rw [Rfc.both, dif_neg (by omega), cond_true]
        rw [hb]
        refine ite_of_iff ⟨fun h => ⟨by simpa using h.1, h.2.2.symm⟩, fun h => ⟨by simpa using h.1, rfl, h.2.symm⟩⟩ 0 17
      · rw [if_neg h2, if_neg (fun h : m = 0 ∨ m = n => h.elim h2 h3)]
        have hc := Rfc.cons_same nodeS m.toNat m.toNat n.toNat (by omega) (by omega) (by omega) old root [] P
        refine ite_of_iff ?_ 0 17
        rw [← hc]
        cases hs : Rfc.start (Rfc.pow2 m.toNat) old P with
        | nil => exact ⟨fun ⟨_, _, h, _⟩ => (by cases h), fun h => (by cases h)⟩
        | cons x q => exact ⟨fun ⟨x', q', h, h'⟩ => (by cases h; exact h'), fun h => ⟨x, q, rfl, h⟩⟩
end Ref
end Go.Proofs.YtjkbpdobeljmjaaGreatDoor

/- The walk of custumallaw16.RfclogGrows. -/
namespace Go.Proofs.YtjkbpdobeljmjaaGreatDoor
open Go.RowKit Bits Mem Sha
namespace Ref
theorem chkC_shows (D : List (List UInt8)) (m n : Nat) (hn : n ≤ D.length) (hmn : m ≤ n) : chkC m n (subS (D.take n) m true) (treeS (D.take m)) (treeS (D.take n)) = 0 := by
  have hl : (D.take n).length = n := by rw [List.length_take]; omega
  rw [← chkC_same]
  unfold refchkC
  rw [if_neg (by omega)]
  by_cases h0 : m = 0
  · subst h0
    rw [if_pos (by rfl), subS_end _ _ _ (by omega)]
    refine if_pos ⟨rfl, Rfc.mth_nil _ _, ?_⟩
    by_cases hn0 : n = 0
    · subst hn0; exact .inr rfl
    · exact .inl (by omega)
  · rw [if_neg (by omega)]
    have hb := Rfc.both_sub nodeS (sha []) n (D.take n) m true (treeS (D.take m)) [] hl (by omega) hmn (fun _ => by
      show treeS (D.take m) = treeS ((D.take n).take m)
      rw [List.take_take, Nat.min_eq_left hmn])
    rw [show ((m : Int)).toNat = m from rfl, show ((n : Int)).toNat = n from rfl]
    have hb' : Rfc.both nodeS m n (subS (D.take n) m true) true (treeS (D.take m)) [] = (treeS (D.take m), treeS (D.take n), true) := by
      have e : treeS ((D.take n).take m) = treeS (D.take m) := by rw [List.take_take, Nat.min_eq_left hmn]
      rw [← e]
      rw [← e] at hb
      exact hb
    rw [hb']
    exact if_pos ⟨rfl, rfl, rfl⟩
end Ref
end Go.Proofs.YtjkbpdobeljmjaaGreatDoor


/- The walks of commit.Check, Make, the document's Open and Bound, and What.value. -/
import Derived.Test.YtkembhonfehlbaaDoorCommit
namespace Go.Proofs.YtkembhonfehlbaaDoor
open Go.RowKit Bits Mem Sha
namespace Ref
def cchk (b o ix : List UInt8) (n : Int) (l : List UInt8) : Int := if bound o ix n l == b then 0 else 17
set_option maxRecDepth 100000 in
set_option maxHeartbeats 4000000 in
theorem ccheck_any (b o ix : List UInt8) (n : Int) (q : Option Addr) (c : Nat) (l : List UInt8) (w : World) (hS : Sha.Tabs w) (hbl : b.length = 32) (ho : o.length = 32) (hix : ix.length = 32) (hl : Rd w 1 (.slice q l.length c) l.length (bys l)) (h : l.length ≤ 1000000) :
    Calls Tryd.prog 17 #[.agg (bysA b), .agg (bysA o), .agg (bysA ix), .int .i64 n, .slice q l.length c] w fun e w' => e = .returned (.int .i64 (cchk b o ix n l)) ∧ Below w.heap.size w w' := by
  have HS := Lib.hid hS
  have HL := Lib.hid hl
  have HB := Lib.hid hbl
  have HO := Lib.hid ho
  have HX := Lib.hid hix
  obtain ⟨wz, hwz⟩ : ∃ wz, wz = ((w.alloc (.cells (bysA b) 22)).alloc (.cells (bysA o) 22)).alloc (.cells (bysA ix) 22) := ⟨_, rfl⟩
  have hbz : Below w.heap.size w wz := by rw [hwz]; exact (((Below.refl _ _).alloc (Nat.le_refl _) _).alloc (by simp) _).alloc (by simp; omega) _
  have hrb : wz.heap[w.heap.size]? = some (.cells (bysA b) 22 (0, 0)) := by rw [hwz]; exact (Rg.heap_alloc_past _ _ _ (by simp; omega)).trans ((Rg.heap_alloc_past _ _ _ (by simp)).trans (Rg.heap_alloc_at w _ _ rfl))
  have hro : wz.heap[w.heap.size + 1]? = some (.cells (bysA o) 22 (0, 0)) := by rw [hwz]; exact (Rg.heap_alloc_past _ _ _ (by simp)).trans (Rg.heap_alloc_at _ _ _ (by simp))
  have hrx : wz.heap[w.heap.size + 1 + 1]? = some (.cells (bysA ix) 22 (0, 0)) := by rw [hwz]; exact Rg.heap_alloc_at _ _ _ (by simp)
  have HWZ := Lib.hid hwz
  have HBZ := Lib.hid hbz
  have HRB := Lib.hid hrb
  have HRO := Lib.hid hro
  have HRX := Lib.hid hrx
  have HLZ := Lib.hid (hl.below hbz)
  have HBL := Lib.hid (bound_length o ix n l)
  have HCC := Lib.hid (show cchk b o ix n l = if bound o ix n l == b then 0 else 17 from rfl)
  obtain ⟨M, hM⟩ : ∃ M, M = bound o ix n l := ⟨_, rfl⟩
  rw [← hM] at HBL HCC
  have HME := Lib.hid hM
  have hml := HBL.out
  have hbl2 := HB.out
  clear hS hl ho hix hwz hbz hro hrx hrb hM hbl
  go_enter Tryd.func17, Tryd.ntmps17
  go_wp2_with fail
  rw [← HWZ.out]
  cases heq : (M == b) with
  | true =>
    have HE : Hid (cchk b o ix n l = 0) := Lib.hid (by rw [HCC.out, heq]; rfl)
    refine Rc.region (wz.heap.size) 7 [Rc.F 4 (fun _ => .agg (bysA M)) (fun _ _ _ => True)] [] (by kernel_rfl) (Nat.le_refl _) (by kernel_rfl) ?_; intro p; simp only [List.take_succ_cons, List.take_zero, List.take_nil, List.drop_succ_cons, List.drop_zero, List.drop_nil]
    refine Rc.r_load rfl rfl _ _ rfl (.agg (bysA o)) (fun x hx => load_mid (l := []) (r := o) (s := []) (o := 0) (by simpa using (Rp.row_le (Rc.undrew hx) HRO.out)) rfl HO.out) ?_; intro K hK; go_simp; refine hK _ ?_; clear hK K
    refine Rc.r_load rfl rfl _ _ rfl (.agg (bysA ix)) (fun x hx => load_mid (l := []) (r := ix) (s := []) (o := 0) (by simpa using (Rp.row_le (Rc.undrew hx) HRX.out)) rfl HX.out) ?_; intro K hK; go_simp; refine hK _ ?_; clear hK K
    iterate 2 (refine Rc.rK rfl rfl ?_; intro K hK; apply Exists.intro; refine ⟨?_, ?_⟩; (focus (intro x hx;  go_simp; (first | (fail) | ((try go_bits); (try go_simp); (try rfl))))); go_simp; refine hK _ ?_; clear hK K)
    refine Rc.fK rfl rfl rfl rfl ?_ ?_
    · intro x Fs hx hle hg K hK
      have hbx := HBZ.out.trans ((Rc.undrew hx).mono HBZ.out.size)
      go_wp2_with fail
      refine (bind_any o ix n q c l x (HS.out.below hbx) HO.out HX.out (HLZ.out.below (Rc.undrew hx)) h).mono ?_
      rintro e x' ⟨rfl, hb⟩
      rw [← HME.out]
      go_wp2_with fail
      exact hK Rc.dflt x' hb (fun _ _ _ _ => trivial)
    intro K hK; go_simp; refine hK _ ?_; clear hK K
    refine Rc.r_load rfl rfl _ _ rfl (.agg (bysA b)) (fun x hx => load_mid (l := []) (r := b) (s := []) (o := 0) (by simpa using (Rp.row_le (Rc.undrew hx) HRB.out)) rfl HB.out) ?_; intro K hK; go_simp; refine hK _ ?_; clear hK K
    iterate 1 (refine Rc.rK rfl rfl ?_; intro K hK; apply Exists.intro; refine ⟨?_, ?_⟩; (focus (intro x hx;  go_simp; (first | (fail) | ((try go_bits); (try go_simp); (try rfl))))); go_simp; refine hK _ ?_; clear hK K)
    refine Rc.done fun x Fs hx hle hg => ?_
    have HBX := Lib.hid (HBZ.out.trans ((Rc.undrew hx).mono HBZ.out.size))
    clear hx hle hg
    go_wp2_with fail
    refine NoPanic.normal ?_
    go_wp2_with fail
    go_ret
    exact ⟨by rw [HE.out]; rfl, HBX.out⟩
  | false =>
    have HE : Hid (cchk b o ix n l = 17) := Lib.hid (by rw [HCC.out, heq]; rfl)
    refine Rc.region (wz.heap.size) 7 [Rc.F 4 (fun _ => .agg (bysA M)) (fun _ _ _ => True)] [] (by kernel_rfl) (Nat.le_refl _) (by kernel_rfl) ?_; intro p; simp only [List.take_succ_cons, List.take_zero, List.take_nil, List.drop_succ_cons, List.drop_zero, List.drop_nil]
    refine Rc.r_load rfl rfl _ _ rfl (.agg (bysA o)) (fun x hx => load_mid (l := []) (r := o) (s := []) (o := 0) (by simpa using (Rp.row_le (Rc.undrew hx) HRO.out)) rfl HO.out) ?_; intro K hK; go_simp; refine hK _ ?_; clear hK K
    refine Rc.r_load rfl rfl _ _ rfl (.agg (bysA ix)) (fun x hx => load_mid (l := []) (r := ix) (s := []) (o := 0) (by simpa using (Rp.row_le (Rc.undrew hx) HRX.out)) rfl HX.out) ?_; intro K hK; go_simp; refine hK _ ?_; clear hK K
    iterate 2 (refine Rc.rK rfl rfl ?_; intro K hK; apply Exists.intro; refine ⟨?_, ?_⟩; (focus (intro x hx;  go_simp; (first | (fail) | ((try go_bits); (try go_simp); (try rfl))))); go_simp; refine hK _ ?_; clear hK K)
    refine Rc.fK rfl rfl rfl rfl ?_ ?_
    · intro x Fs hx hle hg K hK
      have hbx := HBZ.out.trans ((Rc.undrew hx).mono HBZ.out.size)
      go_wp2_with fail
      refine (bind_any o ix n q c l x (HS.out.below hbx) HO.out HX.out (HLZ.out.below (Rc.undrew hx)) h).mono ?_
      rintro e x' ⟨rfl, hb⟩
      rw [← HME.out]
      go_wp2_with fail
      exact hK Rc.dflt x' hb (fun _ _ _ _ => trivial)
    intro K hK; go_simp; refine hK _ ?_; clear hK K
    refine Rc.r_load rfl rfl _ _ rfl (.agg (bysA b)) (fun x hx => load_mid (l := []) (r := b) (s := []) (o := 0) (by simpa using (Rp.row_le (Rc.undrew hx) HRB.out)) rfl HB.out) ?_; intro K hK; go_simp; refine hK _ ?_; clear hK K
    iterate 1 (refine Rc.rK rfl rfl ?_; intro K hK; apply Exists.intro; refine ⟨?_, ?_⟩; (focus (intro x hx;  go_simp; (first | (fail) | ((try go_bits); (try go_simp); (try rfl))))); go_simp; refine hK _ ?_; clear hK K)
    refine Rc.done fun x Fs hx hle hg => ?_
    have HBX := Lib.hid (HBZ.out.trans ((Rc.undrew hx).mono HBZ.out.size))
    clear hx hle hg
    go_wp2_with fail
    refine NoPanic.normal ?_
    go_wp2_with fail
    go_ret
    exact ⟨by rw [HE.out]; rfl, HBX.out⟩
def opener (k ix : List UInt8) (n : Int) : List UInt8 := hmac k (111 :: 112 :: 101 :: 110 :: (ix ++ eight n))
theorem opener_length (k ix : List UInt8) (n : Int) : (opener k ix n).length = 32 := hmac_length _ _
set_option maxRecDepth 100000 in
set_option maxHeartbeats 1000000 in
theorem refopen_any (k ix : List UInt8) (n : Int) (w : World) (hR : Ref.Tabs w) (hk : k.length = 32) (hix : ix.length = 32) :
    Calls Tryd.prog 14 #[.string ⟨k.toArray⟩, .string ⟨ix.toArray⟩, .int .i64 n] w fun e w' => e = .returned (.string ⟨(opener k ix n).toArray⟩) ∧ Below w.heap.size w w' := by
  have HR := Lib.hid hR
  have HK := Lib.hid hk
  have HX := Lib.hid hix
  have HEL := Lib.hid (eight_length n)
  have HNE := Lib.hid (show hmac k (111 :: 112 :: 101 :: 110 :: (ix ++ eight n)) = opener k ix n from rfl)
  clear hR hk hix
  go_enter Tryd.func14, Tryd.ntmps14
  have h1 := HX.out
  go_wp2_with fail
  refine (eight_any n _).mono ?_
  rintro e w1 ⟨rfl, hb1⟩
  have HB1 := Lib.hid hb1
  obtain ⟨E, hE⟩ : ∃ E, E = eight n := ⟨_, rfl⟩
  rw [← hE] at HEL HNE ⊢
  have he := HEL.out
  clear hb1 hE
  go_wp2_with fail
  refine (refof_any k (111 :: 112 :: 101 :: 110 :: (ix ++ E)) _ (HR.out.below HB1.out) (by rw [HK.out]; omega) (by simp; omega)).mono ?_
  rintro e w2 ⟨rfl, hb2⟩
  have HB2 := Lib.hid (HB1.out.trans (hb2.mono HB1.out.size))
  rw [HNE.out]
  clear hb2
  go_wp2_with fail
  go_ret
  exact ⟨rfl, HB2.out⟩
set_option maxRecDepth 100000 in
set_option maxHeartbeats 1000000 in
theorem refbound_any (k ix : List UInt8) (n : Int) (v : List UInt8) (w : World) (hR : Ref.Tabs w) (hk : k.length = 32) (hix : ix.length = 32) (hv : v.length ≤ 800000) :
    Calls Tryd.prog 16 #[.string ⟨k.toArray⟩, .string ⟨ix.toArray⟩, .int .i64 n, .string ⟨v.toArray⟩] w fun e w' => e = .returned (.string ⟨(bound k ix n v).toArray⟩) ∧ Below w.heap.size w w' := by
  have HR := Lib.hid hR
  have HK := Lib.hid hk
  have HX := Lib.hid hix
  have HEL := Lib.hid (eight_length n)
  have HNE := Lib.hid (show hmac k (ix ++ (eight n ++ v)) = bound k ix n v from rfl)
  clear hR hk hix
  go_enter Tryd.func16, Tryd.ntmps16
  have h1 := HX.out
  go_wp2_with fail
  refine (eight_any n _).mono ?_
  rintro e w1 ⟨rfl, hb1⟩
  have HB1 := Lib.hid hb1
  obtain ⟨E, hE⟩ : ∃ E, E = eight n := ⟨_, rfl⟩
  rw [← hE] at HEL HNE ⊢
  have he := HEL.out
  clear hb1 hE
  go_wp2_with fail
  refine (refof_any k (ix ++ (E ++ v)) _ (HR.out.below HB1.out) (by rw [HK.out]; omega) (by simp; omega)).mono ?_
  rintro e w2 ⟨rfl, hb2⟩
  have HB2 := Lib.hid (HB1.out.trans (hb2.mono HB1.out.size))
  rw [HNE.out]
  clear hb2
  go_wp2_with fail
  go_ret
  exact ⟨rfl, HB2.out⟩
def whatA (ix : List UInt8) (n : Int) (v : Value) : Array Value := bysA ix ++ #[.int .i64 n, v]
section
variable {w : World} {g : Nat} {ix : List UInt8} {n : Int} {v : Value} {t : TypeId} {fr : Nat × Nat}
theorem whatA_size (h : ix.length = 32) : (whatA ix n v).size = 34 := by simp [whatA, bysA_size, h]
theorem what_version (h : w.heap[g]? = some (.cells (whatA ix n v) t fr)) (hx : ix.length = 32) : w.cell? ⟨g, 32, none⟩ = some (.int .i64 n) := by
  rw [cell_of_row w g _ _ _ _ h]
  simp only [whatA]
  rw [Array.getElem?_append_right (by rw [bysA_size]; omega), bysA_size, hx]; rfl
theorem what_value (h : w.heap[g]? = some (.cells (whatA ix n v) t fr)) (hx : ix.length = 32) : w.cell? ⟨g, 33, none⟩ = some v := by
  rw [cell_of_row w g _ _ _ _ h]
  simp only [whatA]
  rw [Array.getElem?_append_right (by rw [bysA_size]; omega), bysA_size, hx]; rfl
theorem what_index (h : w.heap[g]? = some (.cells (whatA ix n v) t fr)) (hx : ix.length = 32) : (Instr.loadAt 22 (.pointer (some ⟨g, 0, none⟩))).run Tryd.prog w = .ok (.agg (bysA ix)) w := by
  refine run_loadAt_mid w g 0 _ (bys ix) _ (fun j u hu => ?_) Tryd.underlying22 rfl (by rw [bys_length, hx]; exact info32)
  have hj := (List.getElem?_eq_some_iff.1 hu).1
  rw [bys_length] at hj
  rw [Nat.zero_add, cell_of_row w g _ _ _ _ h]
  simp only [whatA]
  rw [Array.getElem?_append_left (by rw [bysA_size]; exact hj), ← hu]
  simp [bysA]
theorem what_rd (h : w.heap[g]? = some (.cells (whatA ix n v) t fr)) (hx : ix.length = 32) : Rd w 1 (.slice (some ⟨g, 0, none⟩) 32 32) 32 (bys ix) := by
  refine ⟨by rw [bys_length, hx], .inr ⟨g, 0, 32, rfl, lt_of_heap h, Nat.le_refl _, by decide, fun j u hu => ?_⟩⟩
  have hj := (List.getElem?_eq_some_iff.1 hu).1
  rw [bys_length] at hj
  rw [Nat.zero_add, cell_of_row w g _ _ _ _ h]
  simp only [whatA]
  rw [Array.getElem?_append_left (by rw [bysA_size]; exact hj), ← hu]
  simp [bysA]
theorem what_load (h : w.heap[g]? = some (.cells (whatA ix n v) t fr)) (hx : ix.length = 32) : (Instr.loadAt 25 (.pointer (some ⟨g, 0, none⟩))).run Tryd.prog w = .ok (.agg (whatA ix n v)) w := by
  have := run_loadAt_mid w g 0 25 (whatA ix n v).toList _ (fun j u hu => by
    rw [Nat.zero_add, cell_of_row w g _ _ _ _ h]
    simpa using hu) Tryd.underlying25 rfl (by
    rw [Array.length_toList, whatA_size hx]; kernel_rfl)
  simpa using this
end
set_option maxRecDepth 100000 in
set_option maxHeartbeats 1000000 in
theorem value_any (ix : List UInt8) (n : Int) (q : Option Addr) (c : Nat) (l : List UInt8) (w : World) (hix : ix.length = 32) (hl : Rd w 1 (.slice q l.length c) l.length (bys l)) :
    Calls Tryd.prog 12 #[.agg (whatA ix n (.slice q l.length c))] w fun e w' => ∃ v, e = .returned v ∧ Ow w' w.heap.size 5 1 v (l.take 200).length (bys (l.take 200)) ∧ Below w.heap.size w w' := by
  obtain ⟨i0, hi, hz0, hz1, hz2⟩ := parts3 info1
  have hcap := Rd_cap hl
  have hmin : (if (200 : Int) < (l.length : Int) then (200 : Int) else (l.length : Int)) = ((min l.length 200 : Nat) : Int) := by split <;> omega
  obtain ⟨wz, hwz⟩ : ∃ wz, wz = w.alloc (.cells (whatA ix n (.slice q l.length c)) 25) := ⟨_, rfl⟩
  have hbz : Below w.heap.size w wz := by rw [hwz]; exact (Below.refl _ _).alloc (Nat.le_refl _) _
  have hgz : wz.heap[w.heap.size]? = some (.cells (whatA ix n (.slice q l.length c)) 25 (0, 0)) := by rw [hwz]; exact Rg.heap_alloc_at w _ _ rfl
  have c33 := what_value hgz hix
  have hgl := lt_of_heap hgz
  have hx1 : Below wz.heap.size wz (wz.alloc (.cells #[] 5)) := (Below.refl _ _).alloc (Nat.le_refl _) _
  have ho1 : Ow (wz.alloc (.cells #[] 5)) wz.heap.size 5 1 (.slice (some ⟨wz.heap.size, 0, none⟩) 0 0) 0 [] := Ow.lit wz #[] 5 1 0 wz.heap.size (Nat.le_refl _) (Nat.zero_le _) rfl
  have hrd1 := ((Rd_take hl (Nat.min_le_left l.length 200)).below hbz).below hx1
  have hsz : wz.heap.size = w.heap.size + 1 := by rw [hwz]; simp
  have HSZ := Lib.hid hsz
  have HWZ := Lib.hid hwz
  have HBZ := Lib.hid hbz
  have HO1 := Lib.hid ho1
  have HX1 := Lib.hid hx1
  have HR1 := Lib.hid hrd1
  have HTM := Lib.hid (take_min l 200)
  have HLT : Hid ((l.take 200).length = min l.length 200) := Lib.hid (by rw [List.length_take, Nat.min_comm])
  clear hl hix hwz hbz hgz ho1 hx1 hrd1 hsz
  go_enter Tryd.func12, Tryd.ntmps12
  go_wp2_with (first | (rw [← HWZ.out]) | (at_builtin; go_must (refine app_empty rfl _ _ 23 23 rfl wz.heap.size 5 i0 (.int .u8 0) 1 1 Tryd.underlying23 hi hz0 hz1 hz2 rfl wz.heap.size rfl HO1.out _ _ _ rfl (Rd.src Tryd.underlying23 HR1.out (bys_one _)) (by unfold maxLen; omega) (by omega) (by simp) ?_); go_must (intro w1v w1 how1 hb1); go_must (obtain ⟨q1, c1, rfl⟩ := Ow_form how1)))
  have HOW := Lib.hid how1
  have HB := Lib.hid (HBZ.out.trans ((HX1.out.trans (hb1.mono HX1.out.size)).mono HBZ.out.size))
  clear how1 hb1
  go_wp2_with fail
  go_ret
  refine ⟨_, rfl, ?_, HB.out⟩
  have := HOW.out.base_le HBZ.out.size
  rw [HTM.out] at this
  rw [HLT.out]
  exact this
end Ref
end Go.Proofs.YtkembhonfehlbaaDoor

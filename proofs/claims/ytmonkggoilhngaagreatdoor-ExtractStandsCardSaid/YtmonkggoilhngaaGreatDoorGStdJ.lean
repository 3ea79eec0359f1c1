/- What an answer to Standing shows. Conditions: none beyond the bounds of bytes. -/
import Derived.Test.YtmonkggoilhngaaGreatDoorGStdE
import Derived.Test.YtmonkggoilhngaaGreatDoorGTenH
import Derived.Test.YtmonkggoilhngaaGreatDoorGOpenD
namespace Go.Proofs.YtmonkggoilhngaaGreatDoor
set_option linter.unusedVariables false
set_option linter.unusedSimpArgs false
open Go.RowKit Bits Mem Sha
namespace Stn
open Ref (RdL OwL All32 range_list)
/-- A Seen's cells. -/
def seenZ : Array Value := #[.int .i64 0] ++ bysA zeros32 ++ #[.bool false, .int .i64 0, .slice none 0 0]
def seenA (n : Int) (root : List UInt8) (gone : Bool) (e : Int) (link : List UInt8) : Array Value := #[.int .i64 n] ++ bysA root ++ #[.bool gone, .int .i64 e] ++ bysA link ++ seenZ
theorem seenA_size {n : Int} {root : List UInt8} {gone : Bool} {e : Int} {link : List UInt8} (hr : root.length = 32) (hl : link.length = 32) : (seenA n root gone e link).size = 103 := by
  have hz : seenZ.size = 36 := by simp [seenZ, bysA_size]; rfl
  simp only [seenA, Array.size_append, bysA_size, hr, hl, hz]
  rfl
theorem infoSeen : (Tryz.prog.info? 50).map (·.size) = some 103 := by kernel_rfl
theorem seen0 : Tryz.prog.built 50 [] = some (seenA 0 zeros32 false 0 zeros32) := by kernel_rfl
theorem seen3a (g : Nat → UInt8) (n : Int) (gone : Bool) : Tryz.prog.built 50 [(0, .int .i64 n), (1, .agg (bysA ((List.range 32).map g))), (2, .bool gone)] = some (seenA n ((List.range 32).map g) gone 0 zeros32) := by kernel_rfl
theorem seen3 {root : List UInt8} (h : root.length = 32) (n : Int) (gone : Bool) : Tryz.prog.built 50 [(0, .int .i64 n), (1, .agg (bysA root)), (2, .bool gone)] = some (seenA n root gone 0 zeros32) := by
  have := seen3a (fun i => root.getD i 0) n gone
  rw [range_list root h] at this
  exact this
theorem zeroS : Tryz.zeroCells50 = seenA 0 zeros32 false 0 zeros32 := by kernel_rfl
theorem seen_list (n : Int) (root : List UInt8) (gone : Bool) (e : Int) (link : List UInt8) : (seenA n root gone e link).toList = (.int .i64 n :: bys root ++ [.bool gone]) ++ .int .i64 e :: (bys link ++ seenZ.toList) := by
  simp [seenA, bysA]
theorem seen_one (n : Int) (root : List UInt8) (gone : Bool) (e : Int) (link : List UInt8) : (seenA n root gone e link).all (·.oneCell') = true := by
  rw [Array.all_eq_true_iff_forall_mem]
  intro v hv
  have hv : v ∈ (seenA n root gone e link).toList := by simpa using hv
  rw [seen_list] at hv
  simp only [List.mem_append, List.mem_cons, List.mem_singleton, List.not_mem_nil, or_false] at hv
  rcases hv with ((rfl | hv) | rfl) | rfl | hv | hv
  · rfl
  · exact bys_one _ _ hv
  · rfl
  · rfl
  · exact bys_one _ _ hv
  · have hz : seenZ.toList.all (·.oneCell') = true := by kernel_rfl
    exact List.all_eq_true.1 hz v hv
theorem seen_c33 {n : Int} {root : List UInt8} {gone : Bool} {e : Int} {link : List UInt8} (hr : root.length = 32) : (seenA n root gone e link)[33]? = some (.bool gone) := by
  rw [← Array.getElem?_toList, seen_list, List.getElem?_append_left (by simp [bys_length, hr])]
  rw [List.cons_append, List.getElem?_cons_succ, List.getElem?_append_right (by simp [bys_length, hr])]
  simp [bys_length, hr]
theorem seen_c34 {n : Int} {root : List UInt8} {gone : Bool} {e : Int} {link : List UInt8} (hr : root.length = 32) : (seenA n root gone e link)[34]? = some (.int .i64 e) := by
  rw [← Array.getElem?_toList, seen_list, List.getElem?_append_right (by simp [bys_length, hr])]
  simp [bys_length, hr]
theorem seen_rootP {n : Int} {root : List UInt8} {gone : Bool} {e : Int} {link : List UInt8} : PartAt (seenA n root gone e link) 1 (bysA root) := by
  intro j v hv
  have hj := (Array.getElem?_eq_some_iff.1 hv).1
  rw [bysA_size] at hj
  rw [← Array.getElem?_toList, seen_list, List.getElem?_append_left (by simp [bys_length]; omega), Nat.add_comm 1 j, List.cons_append, List.getElem?_cons_succ, List.getElem?_append_left (by rw [bys_length]; omega)]
  simpa [bysA] using hv
theorem seen_linkP {n : Int} {root : List UInt8} {gone : Bool} {e : Int} {link : List UInt8} (hr : root.length = 32) : PartAt (seenA n root gone e link) 35 (bysA link) := by
  intro j v hv
  have hj := (Array.getElem?_eq_some_iff.1 hv).1
  rw [bysA_size] at hj
  have hl : (Value.int .i64 n :: bys root ++ [Value.bool gone]).length = 34 := by simp [bys_length, hr]
  rw [← Array.getElem?_toList, seen_list, List.getElem?_append_right (by rw [hl]; omega), hl, show 35 + j - 34 = j + 1 by omega, List.getElem?_cons_succ, List.getElem?_append_left (by rw [bys_length]; omega)]
  simpa [bysA] using hv
theorem seen_set {n : Int} {root : List UInt8} {gone : Bool} {e e' : Int} {link : List UInt8} (hr : root.length = 32) : (seenA n root gone e link).setIfInBounds 34 (.int .i64 e') = seenA n root gone e' link := by
  apply Array.toList_inj.1
  have hl : (Value.int .i64 n :: bys root ++ [Value.bool gone]).length = 34 := by simp [bys_length, hr]
  rw [Array.toList_setIfInBounds, seen_list, seen_list, List.set_append_right _ _ (by rw [hl]; exact Nat.le_refl _), hl]
  rfl
theorem seen_mid {n : Int} {root : List UInt8} {gone : Bool} {e : Int} {link link' : List UInt8} (hr : root.length = 32) (hl : link.length = 32) (hl' : link'.length = 32) :
    ((seenA n root gone e link).toList.take 35 ++ (bysA link').toList ++ (seenA n root gone e link).toList.drop (35 + (bysA link').size)).toArray = seenA n root gone e link' := by
  apply Array.toList_inj.1
  rw [seen_list, seen_list, bysA_size, hl']
  have h1 : (Value.int .i64 n :: bys root ++ [Value.bool gone]).length = 34 := by simp [bys_length, hr]
  obtain ⟨P, hP⟩ : ∃ P, P = (Value.int .i64 n :: bys root ++ [Value.bool gone]) := ⟨_, rfl⟩
  rw [← hP] at h1 ⊢
  have e1 : (P ++ Value.int .i64 e :: (bys link ++ seenZ.toList)).take 35 = P ++ [Value.int .i64 e] := by
    rw [List.take_append, h1, List.take_of_length_le (by omega)]
    rfl
  have e2 : (P ++ Value.int .i64 e :: (bys link ++ seenZ.toList)).drop (35 + 32) = seenZ.toList := by
    rw [List.drop_append, h1, List.drop_of_length_le (by omega)]
    rw [show 35 + 32 - 34 = 32 + 1 by omega, List.drop_succ_cons, List.nil_append, List.drop_append, bys_length, hl, List.drop_of_length_le (by rw [bys_length]; omega)]
    simp
  rw [e1, e2]
  simp [bysA]
theorem load_rowI {x : World} {b off : Nat} {v : Value} (h : x.cell? ⟨b, off, none⟩ = some v) : (Instr.loadAt 3 (.pointer (some ⟨b, off, none⟩))).run Tryz.prog x = .ok v x := by
  simp [Instr.loadAt, Instr.sureAddr, loadVar, isAgg, run_underlying Tryz.underlying3, h]
/-- What Stand tells. -/
def StdRet (id idl : List UInt8) (gone : Bool) (nm : Int) (link : List UInt8) (S : List (List UInt8)) (there : Bool) (key val root : List UInt8) (e : Ending) : Prop :=
  ∃ ns rt gn ep lk z, e = .returned (.tuple #[.agg (seenA ns rt gn ep lk), .int .i64 z]) ∧ rt.length = 32 ∧ lk.length = 32 ∧
    (z = 0 → rt = root ∧ gn = gone ∧ (gone = false → ep = nm ∧ lk = link) ∧ (gone = true → ep = 0 ∧ lk = zeros32) ∧ id = idl ∧ stdP id gone nm link S there key val root)
/-- An answer's cells. -/
structure AnsIs (w : World) (A : Array Value) (M U : Array Value) : Prop where
  size : A.size = 646
  kind : ∃ k : Int, A[0]? = some (.int .i64 k)
  err : ∃ k : Int, A[1]? = some (.int .i64 k)
  memP : PartAt A 577 M
  undP : PartAt A 379 U
set_option maxRecDepth 100000 in
set_option maxHeartbeats 4000000 in
theorem stand_any {w : World} {pub : List UInt8} {qid : Option Addr} {cid : Nat} {idl : List UInt8} {A M : Array Value} {qi : Option Addr} {ci : Nat} {id : List UInt8} {gone : Bool} {nm : Int} {link : List UInt8} {U C : Array Value} {qs : Option Addr} {cs : Nat} {S : List (List UInt8)} {there : Bool} {key val : List UInt8} {n : Int} {root sg log : List UInt8} {ql : Option Addr} {cl : Nat} {L : List (List UInt8)}
    (hT : Ab.WT Ab.gtL Ab.tabS w) (hS : Sha.Tabs w) (hp : pub.length = 32) (hid : Rd w 1 (.slice qid idl.length cid) idl.length (bys idl)) (hA : AnsIs w A M U) (hM : MemIs w M qi ci id gone nm link) (hU : UndIs w U C qs cs S there key val n root sg log ql cl L) :
    Calls Tryz.prog 7 #[.agg (bysA pub), .slice qid idl.length cid, .agg A] w fun e w' => StdRet id idl gone nm link S there key val root e ∧ Below w.heap.size w w' := by
  obtain ⟨kk, hkk⟩ := hA.kind
  obtain ⟨ke, hke⟩ := hA.err
  obtain ⟨w1, hw1⟩ : ∃ w1, w1 = ((w.alloc (.cells (bysA pub) 22)).alloc (.cells A 45)).alloc (.cells (seenA 0 zeros32 false 0 zeros32) 50) := ⟨_, rfl⟩
  have hb1 : Below w.heap.size w w1 := by rw [hw1]; exact (((Below.refl _ _).alloc (Nat.le_refl _) _).alloc (by simp) _).alloc (by simp; try omega) _
  have hr0 : w1.heap[w.heap.size]? = some (.cells (bysA pub) 22 (0, 0)) := by rw [hw1]; exact (Rg.heap_alloc_past _ _ _ (by simp; try omega)).trans ((Rg.heap_alloc_past _ _ _ (by simp)).trans (Rg.heap_alloc_at w _ _ rfl))
  have hr1 : w1.heap[w.heap.size + 1]? = some (.cells A 45 (0, 0)) := by rw [hw1]; exact (Rg.heap_alloc_past _ _ _ (by simp)).trans (Rg.heap_alloc_at _ _ _ (by simp))
  have hr2 : w1.heap[w.heap.size + 1 + 1]? = some (.cells (seenA 0 zeros32 false 0 zeros32) 50 (0, 0)) := by rw [hw1]; exact Rg.heap_alloc_at _ _ _ (by simp)
  have c0 : w1.cell? ⟨w.heap.size + 1, 0, none⟩ = some (.int .i64 kk) := (cell_of_row _ _ _ _ _ _ hr1).trans hkk
  have c1 : w1.cell? ⟨w.heap.size + 1, 1, none⟩ = some (.int .i64 ke) := (cell_of_row _ _ _ _ _ _ hr1).trans hke
  have c577 : w1.cell? ⟨w.heap.size + 1, 577, none⟩ = some (.slice qi id.length ci) := hA.memP.cell hr1 hM.c0
  have HB1 := Lib.hid hb1
  have HR0 := Lib.hid hr0
  have HR1 := Lib.hid hr1
  have HR2 := Lib.hid hr2
  have HT1 := Lib.hid (hT.past hb1)
  have HS1 := Lib.hid (hS.below hb1)
  have HM := Lib.hid (hM.below hb1)
  have HU := Lib.hid (hU.below hb1)
  have HA := Lib.hid hA
  have HP := Lib.hid hp
  have HID := Lib.hid (hid.below hb1)
  have HW1 := Lib.hid hw1
  have HI0 : Hid ((Tryz.prog.info? 50).map (·.size) = some (seenA 0 zeros32 false 0 zeros32).size) := Lib.hid (by rw [seenA_size rfl rfl]; exact infoSeen)
  have HO0 := Lib.hid (seen_one 0 zeros32 false 0 zeros32)
  clear hkk hke hw1 hb1 hr0 hr1 hr2 hT hS hM hU hA hp hid
  go_enter Tryz.func7, Tryz.ntmps7
  go_upto_region 1 with fail
  rw [zeroS, ← HW1.out]
  by_cases h11 : kk = 11
  · subst h11
    by_cases he0 : ke = 0
    · subst he0
      obtain ⟨be, hbe⟩ : ∃ b, (id == idl) = b := ⟨_, rfl⟩
      have HBE := Lib.hid hbe
      have HEQ := Lib.hid (Fnd.equal_any qi qid ci cid id idl w1 HM.out.idR HID.out)
      rw [hbe] at HEQ
      clear hbe
      go_wp2_with fail
      refine HEQ.out.mono ?_
      rintro e w' ⟨rfl, rfl⟩
      cases be with
      | false =>
        go_wp2_with (first | (refine l_buildT rfl 50 _ rfl (seenA 0 zeros32 false 0 zeros32) seen0 ?_) | (refine Rg.store_row rfl 50 _ _ rfl (w.heap.size + 1 + 1) rfl 50 (seenA 0 zeros32 false 0 zeros32) (seenA 0 zeros32 false 0 zeros32) rfl HR2.out HI0.out rfl HO0.out ?_))
        refine bodyPost_ret (v := .tuple #[.agg (seenA 0 zeros32 false 0 zeros32), .int .i64 (18)]) (Fld.results_cell_slotE (P := Tryz.prog) rfl _ _ (w.heap.size + 1 + 1) 50 (seenA 0 zeros32 false 0 zeros32) (0, 0) _ _ rfl (setRow_heap _ _ _ _ 50 _ HR2.out) rfl Tryz.underlying50 rfl HI0.out) rfl ⟨⟨0, zeros32, false, 0, zeros32, _, rfl, rfl, rfl, fun h => absurd h (by decide)⟩, below_setRow HB1.out (by omega)⟩
      | true =>
        have hl0 : Hid ((Instr.loadAt 22 (.pointer (some ⟨w.heap.size, 0, none⟩))).run Tryz.prog w' = .ok (.agg (bysA pub)) w') := Lib.hid ((PartAt.self _).load HR0.out Tryz.underlying22 rfl (info32r pub HP.out))
        have hl1 : Hid ((Instr.loadAt 43 (.pointer (some ⟨w.heap.size + 1, 577, none⟩))).run Tryz.prog w' = .ok (.agg M) w') := Lib.hid (HA.out.memP.load HR1.out Tryz.underlying43 rfl (by rw [HM.out.size]; exact infoMem))
        have hl2 : Hid ((Instr.loadAt 39 (.pointer (some ⟨w.heap.size + 1, 379, none⟩))).run Tryz.prog w' = .ok (.agg U) w') := Lib.hid (HA.out.undP.load HR1.out Tryz.underlying39 rfl (by rw [HU.out.size]; exact infoUnder))
        have HST := Lib.hid (stands_any HT1.out HS1.out HP.out HM.out HU.out)
        go_wp2_with (first | (refine l_load rfl _ _ rfl _ hl0.out ?_) | (refine l_load rfl _ _ rfl _ hl1.out ?_) | (refine l_load rfl _ _ rfl _ hl2.out ?_))
        refine HST.out.mono ?_
        rintro e w2 ⟨z, rfl, hz, hb2⟩
        have HB2 := Lib.hid hb2
        have HZ := Lib.hid hz
        have HR02 := Lib.hid (Rp.row_le hb2 HR0.out)
        have HR12 := Lib.hid (Rp.row_le hb2 HR1.out)
        have HR22 := Lib.hid (Rp.row_le hb2 HR2.out)
        have HBW := Lib.hid (HB1.out.trans (hb2.mono HB1.out.size))
        clear hz hb2 c0 c1 c577
        by_cases hz0 : z = 0
        · subst hz0
          have HRL := Lib.hid HU.out.rootL
          have c445 : w2.cell? ⟨w.heap.size + 1, 445, none⟩ = some (.int .i64 n) := HA.out.undP.cell HR12.out HU.out.ep
          have c578 : w2.cell? ⟨w.heap.size + 1, 578, none⟩ = some (.bool gone) := HA.out.memP.cell HR12.out HM.out.c1
          have hl3 : Hid ((Instr.loadAt 22 (.pointer (some ⟨w.heap.size + 1, 446, none⟩))).run Tryz.prog w2 = .ok (.agg (bysA root)) w2) := Lib.hid ((HA.out.undP.trans HU.out.rootP).load HR12.out Tryz.underlying22 rfl (info32r root HRL.out))
          have HBD := Lib.hid (seen3 HRL.out n gone)
          obtain ⟨X, hX⟩ : ∃ X, X = seenA n root gone 0 zeros32 := ⟨_, rfl⟩
          have HXE := Lib.hid hX
          rw [← hX] at HBD
          have HIX : Hid ((Tryz.prog.info? 50).map (·.size) = some X.size) := Lib.hid (by rw [hX, seenA_size HRL.out rfl]; exact infoSeen)
          have HSX : Hid ((Tryz.zeroCells50).size = X.size) := Lib.hid (by rw [hX, zeroS, seenA_size rfl rfl, seenA_size HRL.out rfl])
          have HOX : Hid (X.all (·.oneCell') = true) := Lib.hid (by rw [hX]; exact seen_one _ _ _ _ _)
          have HX33 : Hid (X[33]? = some (.bool gone)) := Lib.hid (by rw [hX]; exact seen_c33 HRL.out)
          clear hX
          obtain ⟨w3, hw3⟩ : ∃ w3, w3 = w2.alloc (.cells X 50) := ⟨_, rfl⟩
          have hb3 : Below w2.heap.size w2 w3 := by rw [hw3]; exact (Below.refl _ _).alloc (Nat.le_refl _) _
          have hr3 : w3.heap[w2.heap.size]? = some (.cells X 50 (0, 0)) := by rw [hw3]; exact heap_alloc_new w2 _
          have c33 : w3.cell? ⟨w2.heap.size, 33, none⟩ = some (.bool gone) := (cell_of_row _ _ _ _ _ _ hr3).trans HX33.out
          have HR3 := Lib.hid hr3
          have HW3 := Lib.hid hw3
          have HR13 := Lib.hid (Rp.row_le hb3 HR12.out)
          have HR23 := Lib.hid (Rp.row_le hb3 HR22.out)
          have HBW3 := Lib.hid (HBW.out.trans (hb3.mono HBW.out.size))
          have hlt2 := lt_of_heap HR22.out
          rw [hw3] at c33
          clear hb3 hr3 hw3
          have hl4 : Hid ((Instr.loadAt 4 (.pointer (some ⟨w.heap.size + 1, 578, none⟩))).run Tryz.prog w2 = .ok (.bool gone) w2) := Lib.hid (by simp [Instr.loadAt, Instr.sureAddr, loadVar, isAgg, run_underlying Tryz.underlying4, c578])
          go_upto_region 8 with fail
          go_wp2_with (first | (refine l_load rfl _ _ rfl _ hl3.out ?_) | (refine l_load rfl _ _ rfl _ hl4.out ?_; refine Hid.out ?_))
          refine Lib.hid ?_
          refine l_buildT rfl 50 #[(0, .tmp 41), (1, .tmp 45), (2, .tmp 48)] rfl X (by simp only [List.map_toArray, List.map_cons, List.map_nil]; exact HBD.out) ?_
          go_simp
          go_upto_region 9 with (first | (refine Rg.store_row_new rfl 50 _ _ rfl w2.heap.size rfl rfl 50 _ X rfl HIX.out HSX.out HOX.out ?_))
          rw [← HW3.out] at c33 ⊢
          have HIY := HIX
          have HSI : Hid (X.size = (seenA 0 zeros32 false 0 zeros32).size) := Lib.hid (by rw [HXE.out, seenA_size HRL.out rfl, seenA_size rfl rfl])
          clear HSX HBD c445 c578
          cases gone with
          | true =>
            have hlX : Hid ((Instr.loadAt 50 (.pointer (some ⟨w2.heap.size, 0, none⟩))).run Tryz.prog w3 = .ok (.agg X) w3) := Lib.hid ((PartAt.self X).load HR3.out Tryz.underlying50 rfl HIX.out)
            go_wp2_with (first | (refine l_load rfl _ _ rfl _ hlX.out ?_) | (refine Rg.store_row rfl 50 _ _ rfl (w.heap.size + 1 + 1) rfl 50 (seenA 0 zeros32 false 0 zeros32) X rfl HR23.out HIX.out HSI.out.symm HOX.out ?_))
            refine bodyPost_ret (v := .tuple #[.agg X, .int .i64 0]) (Fld.results_cell_slotE (P := Tryz.prog) rfl _ _ (w.heap.size + 1 + 1) 50 X (0, 0) _ _ rfl (setRow_heap _ _ _ _ 50 _ HR23.out) rfl Tryz.underlying50 rfl HIX.out) rfl ⟨⟨n, root, true, 0, zeros32, _, by rw [HXE.out], HRL.out, rfl, fun _ => ⟨rfl, rfl, (fun h => by cases h), fun _ => ⟨rfl, rfl⟩, eq_of_beq HBE.out, HZ.out (by trivial)⟩⟩, below_setRow HBW3.out (by omega)⟩
          | false =>
            go_upto_region 10 with fail
            have HLK := Lib.hid HM.out.linkL
            have HILK := Lib.hid (info32r link HM.out.linkL)
            obtain ⟨g9, hg9⟩ : ∃ g9, g9 = w2.heap.size := ⟨_, rfl⟩
            rw [← hg9] at HR3 hlt2 ⊢
            clear hg9 c33 HW3
            obtain ⟨X1, hX1⟩ : ∃ X1, X1 = X.setIfInBounds 34 (.int .i64 nm) := ⟨_, rfl⟩
            have HX1E : Hid (X1 = seenA n root false nm zeros32) := Lib.hid (by rw [hX1, HXE.out, seen_set HRL.out])
            obtain ⟨X2, hX2⟩ : ∃ X2, X2 = (X1.toList.take 35 ++ (bysA link).toList ++ X1.toList.drop (35 + (bysA link).size)).toArray := ⟨_, rfl⟩
            have HX2E : Hid (X2 = seenA n root false nm link) := Lib.hid (by rw [hX2, HX1E.out, seen_mid HRL.out rfl HLK.out])
            have HX34 : Hid (X[34]? = some (.int .i64 0)) := Lib.hid (by rw [HXE.out]; exact seen_c34 HRL.out)
            have HX1 := Lib.hid hX1
            have HX2 := Lib.hid hX2
            have hg9s := lt_of_heap HR3.out
            have hb1s := lt_of_heap HR13.out
            clear hX1 hX2
            refine Re.region (fun k => k < w3.heap.size ∧ k ≠ g9) 10 [⟨7, [], [], some (fun _ _ => undef), fun _ _ F y => F g9 ∧ y.heap[g9]? = some (.cells X1 50 (0, 0)), (· = g9), []⟩, ⟨9, [7], [7], some (fun _ _ => undef), fun _ _ _ y => y.heap[g9]? = some (.cells X2 50 (0, 0)), Re.free, []⟩] [9] (by kernel_rfl) (Re.own_one (i := 7) hg9s (by intro s hs; simp only [List.mem_cons, List.not_mem_nil, or_false] at hs; rcases hs with rfl | rfl <;> first | exact .inl rfl | exact .inr ⟨rfl, rfl⟩)) (by kernel_rfl) ?_; intro p; simp only [List.take, List.drop]
            iterate 2 (refine Re.rK rfl rfl ?_; intro K hK; apply Exists.intro; refine ⟨?_, ?_⟩; (focus (intro x hx;  go_simp; (first | (fail) | ((try go_bits); (try go_simp); (try rfl))))); go_simp; refine hK _ ?_; clear hK K)
            refine Re.r_load rfl rfl _ _ rfl (.int .i64 nm) (fun x hx => load_rowI (HA.out.memP.cell ((hx.block (w.heap.size + 1) (.inl ⟨hb1s, by omega⟩)).trans HR13.out) HM.out.c2)) ?_
            intro K hK; go_simp; refine hK _ ?_; clear hK K
            iterate 2 (refine Re.rK rfl rfl ?_; intro K hK; apply Exists.intro; refine ⟨?_, ?_⟩; (focus (intro x hx;  go_simp; (first | (fail) | ((try go_bits); (try go_simp); (try rfl))))); go_simp; refine hK _ ?_; clear hK K)
            refine Re.r_load rfl rfl _ _ rfl (.agg (bysA link)) (fun x hx => (HA.out.memP.trans HM.out.linkP).load ((hx.block (w.heap.size + 1) (.inl ⟨hb1s, by omega⟩)).trans HR13.out) Tryz.underlying22 rfl HILK.out) ?_
            intro K hK; go_simp; refine hK _ ?_; clear hK K
            iterate 1 (refine Re.rK rfl rfl ?_; intro K hK; apply Exists.intro; refine ⟨?_, ?_⟩; (focus (intro x hx;  go_simp; (first | (fail) | ((try go_bits); (try go_simp); (try rfl))))); go_simp; refine hK _ ?_; clear hK K)
            refine Re.cK rfl rfl rfl ?_ ?_
            · intro x Fs hx ho hg K' hK'
              have hrx := (ho g9 rfl).trans HR3.out
              have d34 : x.cell? ⟨g9, 34, none⟩ = some (.int .i64 0) := (cell_of_row _ _ _ _ _ _ hrx).trans HX34.out
              have f34 : x.frozen? ⟨g9, 34, none⟩ = false := frozen_of_row _ _ _ _ _ hrx
              obtain ⟨x2, hx2⟩ : ∃ x2, x2 = x.setCell ⟨g9, 34, none⟩ (.int .i64 nm) := ⟨_, rfl⟩
              have hr2 : x2.heap[g9]? = some (.cells X1 50 (0, 0)) := by
                rw [hx2, setCell_eq_setRow x g9 34 _ _ _ _ hrx, HX1.out]
                exact setRow_heap x g9 _ _ _ _ hrx
              have hg2 : x.grownBy x2 (some g9) := by rw [hx2]; exact grown_setCell _ _ _ _
              have HX2' := Lib.hid hx2
              have HR2' := Lib.hid hr2
              have HG2 := Lib.hid hg2
              clear hrx hx2 hr2 hg2
              go_wp2_with (rw [← HX2'.out])
              exact hK' Rc.dflt x2 ⟨HG2.out.os, HG2.out.tape, HG2.out.output, HG2.out.size, fun k hk hn => HG2.out.block k hk (fun e => hn (.inr (by cases e; rfl)))⟩ (fun y hy => ⟨.inl (.inr rfl), (hy.block g9 (lt_of_heap HR2'.out) (.inr (.inl (.inr rfl)))).trans HR2'.out⟩)
            intro K hK; go_simp; refine hK _ ?_; clear hK K
            iterate 1 (refine Re.rK rfl rfl ?_; intro K hK; apply Exists.intro; refine ⟨?_, ?_⟩; (focus (intro x hx;  go_simp; (first | (fail) | ((try go_bits); (try go_simp); (try rfl))))); go_simp; refine hK _ ?_; clear hK K)
            refine Re.cK rfl rfl rfl ?_ ?_
            · intro x Fs hx ho hg K' hK'
              obtain ⟨hF, hrx⟩ : Fs 7 g9 ∧ x.heap[g9]? = some (.cells X1 50 (0, 0)) := hg.1
              have hsz : 35 + (bysA link).size ≤ X1.size := by rw [HX1E.out, seenA_size HRL.out rfl, bysA_size, HLK.out]; decide
              have hk2 := hK' Rc.dflt (x.setRow g9 X2) ⟨rfl, rfl, rfl, by simp [World.setRow], fun k hk hn => setRow_heap_ne (fun e => hn (.inl ⟨7, by simp, by rw [e]; exact hF⟩))⟩ (fun y hy => (hy.block g9 (by rw [show (x.setRow g9 X2).heap.size = x.heap.size by simp [World.setRow]]; exact lt_of_heap hrx) (.inr (.inl (.inl ⟨7, by simp, hF⟩)))).trans (setRow_heap _ _ _ _ _ _ hrx))
              have HK2 := Lib.hid hk2
              have HRX := Lib.hid hrx
              have HSZ := Lib.hid hsz
              clear hk2 hrx hsz hF hg ho hx hK'
              refine Rg.store_part rfl 22 _ _ rfl g9 35 rfl 50 X1 (bysA link) rfl HRX.out HILK.out HSZ.out (bysA_one _) ?_
              rw [← HX2.out]
              go_wp2_with fail
              exact HK2.out
            intro K hK; go_simp; refine hK _ ?_; clear hK K
            refine Re.done fun x Fs hx hg => ?_
            have hr9 : x.heap[g9]? = some (.cells X2 50 (0, 0)) := hg.1
            have HBX : Hid (Below w.heap.size w x) := Lib.hid (HBW3.out.trans ⟨hx.os, hx.tape, hx.output, hx.size, fun k hk => hx.block k ⟨by have := HBW3.out.size; omega, by omega⟩⟩)
            have HR2X : Hid (x.heap[w.heap.size + 1 + 1]? = some (.cells (seenA 0 zeros32 false 0 zeros32) 50 (0, 0))) := Lib.hid ((hx.block _ ⟨lt_of_heap HR23.out, by omega⟩).trans HR23.out)
            have HIX2 : Hid ((Tryz.prog.info? 50).map (·.size) = some X2.size) := Lib.hid (by rw [HX2E.out, seenA_size HRL.out HLK.out]; exact infoSeen)
            have HSI2 : Hid ((seenA 0 zeros32 false 0 zeros32).size = X2.size) := Lib.hid (by rw [HX2E.out, seenA_size HRL.out HLK.out, seenA_size rfl rfl])
            have HOX2 : Hid (X2.all (·.oneCell') = true) := Lib.hid (by rw [HX2E.out]; exact seen_one _ _ _ _ _)
            have hlX : Hid ((Instr.loadAt 50 (.pointer (some ⟨g9, 0, none⟩))).run Tryz.prog x = .ok (.agg X2) x) := Lib.hid ((PartAt.self X2).load hr9 Tryz.underlying50 rfl HIX2.out)
            clear hr9 hg hx
            go_wp2_with fail
            refine NoPanic.normal ?_
            go_wp2_with (first | (refine l_load rfl _ _ rfl _ hlX.out ?_) | (refine Rg.store_row rfl 50 _ _ rfl (w.heap.size + 1 + 1) rfl 50 (seenA 0 zeros32 false 0 zeros32) X2 rfl HR2X.out HIX2.out HSI2.out HOX2.out ?_))
            refine bodyPost_ret (v := .tuple #[.agg X2, .int .i64 0]) (Fld.results_cell_slotE (P := Tryz.prog) rfl _ _ (w.heap.size + 1 + 1) 50 X2 (0, 0) _ _ rfl (setRow_heap _ _ _ _ 50 _ HR2X.out) rfl Tryz.underlying50 rfl HIX2.out) rfl ⟨⟨n, root, false, nm, link, _, by rw [HX2E.out], HRL.out, HLK.out, fun _ => ⟨rfl, rfl, fun _ => ⟨rfl, rfl⟩, (fun h => by cases h), eq_of_beq HBE.out, HZ.out (by trivial)⟩⟩, below_setRow HBX.out (by omega)⟩
        · have hz1 : (z == 0) = false := by simpa using hz0
          have hz2 : (z != 0) = true := by simpa using hz0
          go_wp2_with (first | (refine l_buildT rfl 50 _ rfl (seenA 0 zeros32 false 0 zeros32) seen0 ?_) | (refine Rg.store_row rfl 50 _ _ rfl (w.heap.size + 1 + 1) rfl 50 (seenA 0 zeros32 false 0 zeros32) (seenA 0 zeros32 false 0 zeros32) rfl HR22.out HI0.out rfl HO0.out ?_))
          refine bodyPost_ret (v := .tuple #[.agg (seenA 0 zeros32 false 0 zeros32), .int .i64 (z)]) (Fld.results_cell_slotE (P := Tryz.prog) rfl _ _ (w.heap.size + 1 + 1) 50 (seenA 0 zeros32 false 0 zeros32) (0, 0) _ _ rfl (setRow_heap _ _ _ _ 50 _ HR22.out) rfl Tryz.underlying50 rfl HI0.out) rfl ⟨⟨0, zeros32, false, 0, zeros32, _, rfl, rfl, rfl, fun h => absurd h (hz0)⟩, below_setRow HBW.out (by omega)⟩
    · have h1 : (ke == 0) = false := by simpa using he0
      have h2 : (ke != 0) = true := by simpa using he0
      go_wp2_with (first | (refine l_buildT rfl 50 _ rfl (seenA 0 zeros32 false 0 zeros32) seen0 ?_) | (refine Rg.store_row rfl 50 _ _ rfl (w.heap.size + 1 + 1) rfl 50 (seenA 0 zeros32 false 0 zeros32) (seenA 0 zeros32 false 0 zeros32) rfl HR2.out HI0.out rfl HO0.out ?_))
      refine bodyPost_ret (v := .tuple #[.agg (seenA 0 zeros32 false 0 zeros32), .int .i64 (2)]) (Fld.results_cell_slotE (P := Tryz.prog) rfl _ _ (w.heap.size + 1 + 1) 50 (seenA 0 zeros32 false 0 zeros32) (0, 0) _ _ rfl (setRow_heap _ _ _ _ 50 _ HR2.out) rfl Tryz.underlying50 rfl HI0.out) rfl ⟨⟨0, zeros32, false, 0, zeros32, _, rfl, rfl, rfl, fun h => absurd h (by decide)⟩, below_setRow HB1.out (by omega)⟩
  · have h1 : (kk == 11) = false := by simpa using h11
    have h2 : (kk != 11) = true := by simpa using h11
    go_wp2_with (first | (refine l_buildT rfl 50 _ rfl (seenA 0 zeros32 false 0 zeros32) seen0 ?_) | (refine Rg.store_row rfl 50 _ _ rfl (w.heap.size + 1 + 1) rfl 50 (seenA 0 zeros32 false 0 zeros32) (seenA 0 zeros32 false 0 zeros32) rfl HR2.out HI0.out rfl HO0.out ?_))
    refine bodyPost_ret (v := .tuple #[.agg (seenA 0 zeros32 false 0 zeros32), .int .i64 (2)]) (Fld.results_cell_slotE (P := Tryz.prog) rfl _ _ (w.heap.size + 1 + 1) 50 (seenA 0 zeros32 false 0 zeros32) (0, 0) _ _ rfl (setRow_heap _ _ _ _ 50 _ HR2.out) rfl Tryz.underlying50 rfl HI0.out) rfl ⟨⟨0, zeros32, false, 0, zeros32, _, rfl, rfl, rfl, fun h => absurd h (by decide)⟩, below_setRow HB1.out (by omega)⟩
end Stn
end Go.Proofs.YtmonkggoilhngaaGreatDoor
/- An answer told from bytes, opened. Conditions: none beyond the bounds of bytes. -/
namespace Go.Proofs.YtmonkggoilhngaaGreatDoor
open Go.RowKit Bits Mem Sha
namespace Ab
theorem told_calls {σ : S} {w : World} {vs : Array Value} (hw : WT gtL σ w) (hvs : VTs σ vs.toList [.sl 1]) : (callFunc 5 vs).run Tryz.prog w = .ok (.enter 5 vs) w ∧ Calls Tryz.prog 5 vs w fun e w' => ∃ v, e = .returned v ∧ Ans gtL σ w v w' (.t2 (.agg answerK) TI64) := sig_calls (cx_ok s_rright_ok) 10 Tryz.func5 (by kernel_rfl) hw hvs
/-- A block of cells lies there. -/
def CellsAt (w : World) (q : Option Addr) : Prop := ∀ p, q = some p → ∃ C t f, w.heap[p.block]? = some (.cells C t f)
theorem CellsAt.below {w w' : World} {q : Option Addr} (h : CellsAt w q) (hb : Below w.heap.size w w') : CellsAt w' q := fun p hp => by
  obtain ⟨C, t, f, hh⟩ := h p hp
  exact ⟨C, t, f, (hb.block _ (lt_of_heap hh)).trans hh⟩
def argK (o n m : Nat) : List K := (List.range m).map fun i => if o ≤ i ∧ i < o + n then K.int .u8 else K.wild
theorem argK_get {o n m i : Nat} {κ : K} (h : (argK o n m)[i]? = some κ) : i < m ∧ κ = if o ≤ i ∧ i < o + n then K.int .u8 else K.wild := by
  unfold argK at h
  rw [List.getElem?_map] at h
  obtain ⟨j, h1, h2⟩ := Option.map_eq_some_iff.1 h
  obtain ⟨h3, h4⟩ := List.getElem?_eq_some_iff.1 h1
  rw [List.getElem_range] at h4
  rw [List.length_range] at h3
  subst h4
  exact ⟨h3, h2.symm⟩
theorem arg_open {w : World} (hT : WT gtL tabS w) {q : Option Addr} {c : Nat} {X : List UInt8} (hx : Mem.Rd w 1 (.slice q X.length c) X.length (Mem.bys X)) (hq : CellsAt w q) (hl : X.length ≤ 1000000) :
    ∃ σ, WT gtL σ w ∧ VT σ (.slice q X.length c) (.sl 1) ∧ ∀ b l, σ b ≠ some (true, l) := by
  have hro : ∀ b l, tabS b ≠ some (true, l) := fun b l e => by
    unfold tabS at e
    obtain ⟨_, _, h2⟩ := Option.map_eq_some_iff.1 e
    cases h2
  obtain ⟨_, hx | ⟨b, off, cap, hv, hb, hc, hm, hcell⟩⟩ := hx
  · obtain ⟨e, _⟩ := hx
    exact ⟨tabS, hT, by rw [e]; exact SL_nil _ _, hro⟩
  · cases hv
    obtain ⟨C, t, f, hh⟩ := hq _ rfl
    dsimp only at hh
    have hat : ∀ i, i < X.length → C.toList[off + i]? = some (.int .u8 ((X.getD i 0).toNat : Int)) := fun i hi => by
      have := hcell i _ (bys_get X i hi)
      rw [cell_of_row w b _ _ _ _ hh] at this
      simpa using this
    cases hs : tabS b with
    | some x =>
      obtain ⟨m', l'⟩ := x
      have hml : (b, l') ∈ gtL.l := by
        unfold tabS at hs
        obtain ⟨l2, h1, h2⟩ := Option.map_eq_some_iff.1 hs
        cases h2
        exact gOf_mem h1
      obtain ⟨D, t', f', hh', _, hD⟩ := hT.blk b m' l' hs
      rw [hh] at hh'
      cases hh'
      refine ⟨tabS, hT, ⟨_, _, _, rfl, hc, hm, hl, (fun h => nomatch h), fun p hp => ?_⟩, hro⟩
      cases hp
      refine ⟨rfl, m', l', hs, fun i hi => ?_⟩
      rw [Nat.mul_one] at hi
      have h1 := hat i hi
      have hlt : off + i < l'.length := by rw [← hD.1]; exact (List.getElem?_eq_some_iff.1 h1).1
      have h2 : l'[off + i]? = some l'[off + i] := List.getElem?_eq_getElem _
      obtain ⟨v, h3, h4⟩ := hD.2 _ _ h2
      rw [h1] at h3
      cases h3
      have hk := gtL_int _ hml _ (List.mem_of_getElem? h2)
      dsimp only
      rw [h2]
      revert h4 hk
      generalize l'[off + i] = κ
      intro hk h4
      cases κ <;> first | (obtain ⟨n, e, _⟩ := hk; cases e; rfl) | cases h4
    | none =>
      obtain ⟨σ, hσ⟩ : ∃ σ : S, σ = fun k => if k = b then some (false, argK off X.length C.size) else tabS k := ⟨_, rfl⟩
      have hle : Le tabS σ := fun k x hk => by
        rw [hσ]
        dsimp only
        rw [if_neg (fun e => by rw [e, hs] at hk; cases hk)]
        exact hk
      have hbσ : σ b = some (false, argK off X.length C.size) := by rw [hσ]; exact if_pos rfl
      refine ⟨σ, ⟨fun g l hg => hle _ _ (hT.tab g l hg), fun g D hg => ?_, fun k m l hk => ?_⟩, ⟨_, _, _, rfl, hc, hm, hl, (fun h => nomatch h), fun p hp => ?_⟩, fun k l e => ?_⟩
      · obtain ⟨⟨l, h1⟩, h2⟩ := hT.fx g D hg
        exact ⟨⟨l, hle _ _ h1⟩, h2⟩
      · by_cases hkb : k = b
        · subst hkb
          rw [hbσ] at hk
          cases hk
          refine ⟨C, t, f, hh, (fun h => nomatch h), by simp [argK], fun i κ hi => ?_⟩
          obtain ⟨h1, h2⟩ := argK_get hi
          refine ⟨_, List.getElem?_eq_getElem (by simpa using h1), ?_⟩
          rw [h2]
          split
          · rename_i hr
            have := hat (i - off) (by omega)
            rw [show off + (i - off) = i by omega, List.getElem?_eq_getElem (by simpa using h1)] at this
            have e := Option.some.inj this
            rw [e]
            refine ⟨_, rfl, ?_, ?_⟩
            · show (0 : Int) ≤ _; omega
            · have := (X.getD (i - off) 0).toNat_lt; show _ ≤ (255 : Int); omega
          · trivial
        · rw [hσ] at hk
          dsimp only at hk
          rw [if_neg hkb] at hk
          obtain ⟨D, t', f', h1, h2, h3⟩ := hT.blk k m l hk
          exact ⟨D, t', f', h1, h2, h3.mono hle⟩
      · cases hp
        refine ⟨rfl, _, _, hbσ, fun i hi => ?_⟩
        rw [Nat.mul_one] at hi
        dsimp only
        have h1 := (List.getElem?_eq_some_iff.1 (hat i hi)).1
        rw [Array.length_toList] at h1
        unfold argK
        rw [List.getElem?_map, List.getElem?_range h1]
        exact congrArg some (if_pos (⟨by omega, by omega⟩ : off ≤ off + i ∧ off + i < off + X.length))
      · rw [hσ] at e
        dsimp only at e
        split at e
        · cases e
        · exact hro _ _ e
/-- What is reckoned where nothing may be written leaves all that is old. -/
theorem Go1.ro {σ σ' : S} {w w' : World} (h : Go1 σ σ' w w') (hr : ∀ b l, σ b ≠ some (true, l)) : Below w.heap.size w w' :=
  ⟨h.os, h.tape, h.output, h.size, fun b hb => h.kept b hb (hr b)⟩
end Ab
namespace Stn
open Ref (RdL OwL All32)
theorem chunk : ∀ (n : Nat) (bs : List UInt8), bs.length = n * 32 → ∃ L : List (List UInt8), All32 L ∧ L.flatten = bs ∧ L.length = n
  | 0, bs, h => ⟨[], (fun _ h => by cases h), (List.length_eq_zero_iff.1 (by omega)).symm, rfl⟩
  | n + 1, bs, h => by
    obtain ⟨L, h1, h2, h3⟩ := chunk n (bs.drop 32) (by rw [List.length_drop]; omega)
    refine ⟨bs.take 32 :: L, fun x hx => ?_, ?_, by rw [List.length_cons, h3]⟩
    · rcases List.mem_cons.1 hx with rfl | hx
      · rw [List.length_take]; omega
      · exact h1 x hx
    · rw [List.flatten_cons, h2, List.take_append_drop]
theorem OW_rdL {σ : Ab.S} {w : World} (hw : Ab.WT Ab.gtL σ w) {v : Value} {hi : Nat} (h : Ab.OW σ v (List.replicate 32 (.int .u8)) 0 hi) : ∃ q c L, v = .slice q (List.length L) c ∧ RdL w v L ∧ L.length ≤ hi := by
  rcases h with ⟨rfl, _⟩ | ⟨b, len, cap, l, rfl, h1, h2, h3, h4, hb, h5, h6⟩
  · exact ⟨none, 0, [], rfl, ⟨(fun _ h => by cases h), Rd.nil w 32⟩, Nat.zero_le _⟩
  · obtain ⟨C, t, f, hh, _, hC⟩ := hw.blk b true l hb
    rw [List.length_replicate] at h5 h6
    have hcl : cap * 32 = C.toList.length := by rw [hC.1, h5]
    have hle : len * 32 ≤ C.toList.length := by rw [← hcl]; exact Nat.mul_le_mul_right _ h3
    obtain ⟨bs, hbs⟩ := Ab.bys_of (σ := σ) (C := C.toList.take (len * 32)) (fun v hv => by
      obtain ⟨j, hj, rfl⟩ := List.mem_iff_getElem.1 hv
      have hj' : j < len * 32 := by rw [List.length_take] at hj; omega
      have h7 := h6 (j / 32) (j % 32) (.int .u8) (by omega) (by rw [List.getElem?_replicate, if_pos (Nat.mod_lt _ (by decide))])
      rw [Nat.div_add_mod' j 32] at h7
      obtain ⟨u, hu1, hu2⟩ := hC.2 _ _ h7
      have h8 : (C.toList.take (len * 32))[j]? = some u := by rw [List.getElem?_take, if_pos hj']; exact hu1
      rw [List.getElem?_eq_getElem hj] at h8
      cases h8
      exact hu2)
    have hbl : bs.length = len * 32 := by
      have := congrArg List.length hbs
      rw [bys_length, List.length_take] at this
      omega
    obtain ⟨L, a1, a2, a3⟩ := chunk len bs hbl
    subst a3
    refine ⟨_, cap, L, rfl, ⟨a1, by rw [a2, bys_length, hbl], .inr ⟨b, 0, cap, rfl, hw.lt hb, h3, h4, fun j u hj => ?_⟩⟩, h2⟩
    rw [Nat.zero_add, cell_of_row w b _ _ _ _ hh]
    rw [a2, ← hbs, List.getElem?_take] at hj
    split at hj
    · simpa using hj
    · cases hj
section
variable {A : Array Value} {ks : List Ab.K} {σ : Ab.S}
theorem CT_at (h : Ab.CT σ A.toList ks) {i : Nat} {κ : Ab.K} (hk : ks[i]? = some κ) : ∃ v, A[i]? = some v ∧ Ab.KT σ v κ := by
  obtain ⟨v, h1, h2⟩ := h.2 i κ hk
  exact ⟨v, by simpa using h1, h2⟩
theorem CT_part (h : Ab.CT σ A.toList ks) {o n : Nat} (hk : (ks.drop o).take n = List.replicate n Ab.B8) : ∃ l : List UInt8, l.length = n ∧ PartAt A o (bysA l) := by
  have hs := h.seg o n
  rw [hk] at hs
  obtain ⟨l, hl⟩ := Ab.bys_of (σ := σ) (C := (A.toList.drop o).take n) (fun v hv => by
    obtain ⟨i, hi, rfl⟩ := List.mem_iff_getElem.1 hv
    have hi' : i < n := by rw [List.length_take] at hi; omega
    obtain ⟨u, h1, h2⟩ := hs.2 i Ab.B8 (by rw [List.getElem?_replicate, if_pos hi'])
    rw [List.getElem?_eq_getElem hi] at h1
    cases h1
    exact h2)
  have hll : l.length = n := by
    have := hs.1
    rw [hl, bys_length, List.length_replicate] at this
    exact this
  refine ⟨l, hll, fun j v hv => ?_⟩
  have h1 : (bys l)[j]? = some v := by simpa [bysA] using hv
  rw [← hl, List.getElem?_take] at h1
  split at h1
  · rw [List.getElem?_drop] at h1; simpa using h1
  · cases h1
end
/-- A part cut out. -/
def cut (A : Array Value) (o n : Nat) : Array Value := A.extract o (o + n)
theorem cut_size {A : Array Value} {o n : Nat} (h : o + n ≤ A.size) : (cut A o n).size = n := by unfold cut; rw [Array.size_extract]; omega
theorem cut_get {A : Array Value} {o n i : Nat} (hi : i < n) : (cut A o n)[i]? = A[o + i]? := by
  unfold cut
  rw [Array.getElem?_extract]
  split
  · rfl
  · rename_i h
    rw [Array.getElem?_eq_none (by omega)]
theorem cut_part (A : Array Value) (o n : Nat) : PartAt A o (cut A o n) := fun j v hv => by
  have hj := (Array.getElem?_eq_some_iff.1 hv).1
  have : j < n := by unfold cut at hj; rw [Array.size_extract] at hj; omega
  rw [← cut_get this]
  exact hv
theorem PartAt.cut {A P : Array Value} {o o' n : Nat} (h : PartAt A (o + o') P) (hn : o' + P.size ≤ n) : PartAt (cut A o n) o' P := fun j v hv => by
  have hj := (Array.getElem?_eq_some_iff.1 hv).1
  rw [cut_get (by omega), ← Nat.add_assoc]
  exact h j v hv
theorem PartAt.app {A P Q : Array Value} {o : Nat} (h : PartAt A o P) (h' : PartAt A (o + P.size) Q) : PartAt A o (P ++ Q) := fun j v hv => by
  rw [Array.getElem?_append] at hv
  split at hv
  · exact h j v hv
  · have := h' _ v hv
    rwa [show o + P.size + (j - P.size) = o + j by omega] at this
theorem PartAt.one {A : Array Value} {o : Nat} {v : Value} (h : A[o]? = some v) : PartAt A o #[v] := fun j u hu => by
  have hj := (Array.getElem?_eq_some_iff.1 hu).1
  obtain rfl : j = 0 := by simp at hj; omega
  cases hu
  exact h
/-- An answer, opened. -/
def AnsOk (w : World) (A : Array Value) : Prop := A.all (·.oneCell') = true ∧ ∃ M U : Array Value, AnsIs w A M U ∧ (∃ qi ci id gone nm link, MemIs w M qi ci id gone nm link) ∧ ∃ C qs cs S there key val n root sg log ql cl L, UndIs w U C qs cs S there key val n root sg log ql cl L
theorem AnsOk.below {w w' : World} {A : Array Value} (h : AnsOk w A) (hb : Below w.heap.size w w') : AnsOk w' A := by
  obtain ⟨h0, M, U, h1, ⟨qi, ci, id, gone, nm, link, h2⟩, C, qs, cs, S, there, key, val, n, root, sg, log, ql, cl, L, h3⟩ := h
  exact ⟨h0, M, U, ⟨h1.size, h1.kind, h1.err, h1.memP, h1.undP⟩, ⟨qi, ci, id, gone, nm, link, h2.below hb⟩, C, qs, cs, S, there, key, val, n, root, sg, log, ql, cl, L, h3.below hb⟩
theorem AnsOk.size {w : World} {A : Array Value} (h : AnsOk w A) : A.size = 646 := by
  obtain ⟨_, M, U, h1, _⟩ := h
  exact h1.size
theorem ans_open {σ : Ab.S} {w : World} (hw : Ab.WT Ab.gtL σ w) {A : Array Value} (h : Ab.CT σ A.toList Ab.answerK) : AnsOk w A := by
  have hs : A.size = 646 := by
    have := h.1
    rw [Array.length_toList] at this
    exact this.trans (by decide +kernel)
  obtain ⟨v0, e0, n0, rfl, _⟩ := CT_at h (i := 0) (κ := .int .i64) (by kernel_rfl)
  obtain ⟨v1, e1, n1, rfl, _⟩ := CT_at h (i := 1) (κ := .int .i64) (by kernel_rfl)
  -- the member
  obtain ⟨vi, ei, hvi⟩ := CT_at h (i := 577) (κ := .sl 1) (by kernel_rfl)
  obtain ⟨qi, ci, id, rfl, hid, _, hidl⟩ := Ab.SS.rd (c := Ab.cx []) hw (Ab.SL.ss hvi)
  obtain ⟨_, eg, gone, rfl⟩ := CT_at h (i := 578) (κ := .bool) (by kernel_rfl)
  obtain ⟨_, em, nm, rfl, hm1, hm2⟩ := CT_at h (i := 579) (κ := .int .i64) (by kernel_rfl)
  obtain ⟨link, hll, hlp⟩ := CT_part h (o := 580) (n := 32) (by kernel_rfl)
  -- what it stands under
  obtain ⟨vs, es, hvs⟩ := CT_at h (i := 379) (κ := .ow 32 256) (by kernel_rfl)
  obtain ⟨qs, cs, S, rfl, hSr, hSl⟩ := OW_rdL hw hvs
  obtain ⟨_, et, there, rfl⟩ := CT_at h (i := 380) (κ := .bool) (by kernel_rfl)
  obtain ⟨key, hkl, hkp⟩ := CT_part h (o := 381) (n := 32) (by kernel_rfl)
  obtain ⟨val, hvl, hvp⟩ := CT_part h (o := 413) (n := 32) (by kernel_rfl)
  obtain ⟨_, en, n, rfl, hn1, hn2⟩ := CT_at h (i := 445) (κ := .int .i64) (by kernel_rfl)
  obtain ⟨root, hrl, hrp⟩ := CT_part h (o := 446) (n := 32) (by kernel_rfl)
  obtain ⟨sg, hsl, hsp⟩ := CT_part h (o := 478) (n := 64) (by kernel_rfl)
  obtain ⟨log, hgl, hgp⟩ := CT_part h (o := 542) (n := 32) (by kernel_rfl)
  obtain ⟨vl, el, hvl2⟩ := CT_at h (i := 574) (κ := .ow 32 256) (by kernel_rfl)
  obtain ⟨ql, cl, L, rfl, hLr, hLl⟩ := OW_rdL hw hvl2
  have hU : (cut A 379 196).size = 196 := cut_size (by omega)
  have hM : (cut A 577 35).size = 35 := cut_size (by omega)
  have hP : (cut (cut A 379 196) 0 66).size = 66 := cut_size (by omega)
  refine ⟨h.all1, cut A 577 35, cut A 379 196, ⟨hs, ⟨n0, e0⟩, ⟨n1, e1⟩, cut_part _ _ _, cut_part _ _ _⟩, ⟨qi, ci, id, gone, nm, link, ⟨hM, (cut_get (by decide)).trans ei, (cut_get (by decide)).trans eg, (cut_get (by decide)).trans em, PartAt.cut hlp (by rw [bysA_size]; omega), hll, hm1, hm2, hid, hidl⟩⟩,
    cut (cut A 379 196) 0 66, qs, cs, S, there, key, val, n, root, sg, log, ql, cl, L, ⟨hU, ⟨hP, (cut_get (by decide)).trans ((cut_get (by decide)).trans es), (cut_get (by decide)).trans ((cut_get (by decide)).trans et), PartAt.cut (PartAt.cut hkp (by rw [bysA_size]; omega)) (by rw [bysA_size]; omega), PartAt.cut (PartAt.cut hvp (by rw [bysA_size]; omega)) (by rw [bysA_size]; omega), hkl, hvl, hSr, hSl⟩, cut_part _ _ _, ?_, hrl, hsl, hn1, hn2, PartAt.cut hgp (by rw [bysA_size]; omega), hgl, (cut_get (by decide)).trans el, hLr⟩⟩
  refine PartAt.cut ?_ (by rw [signedA_size hrl hsl]; omega)
  unfold signedA
  refine PartAt.app (PartAt.app (PartAt.one en) hrp) ?_
  rw [Array.size_append, bysA_size, hrl]
  exact hsp
theorem told_any {w : World} (hT : Ab.WT Ab.gtL Ab.tabS w) {q : Option Addr} {c : Nat} {X : List UInt8} (hx : Rd w 1 (.slice q X.length c) X.length (bys X)) (hq : Ab.CellsAt w q) (hl : X.length ≤ 1000000) :
    Calls Tryz.prog 5 #[.slice q X.length c] w fun e w' => ∃ A z, e = .returned (.tuple #[.agg A, .int .i64 z]) ∧ AnsOk w' A ∧ Below w.heap.size w w' := by
  obtain ⟨σ, h1, h2, h3⟩ := Ab.arg_open hT hx hq hl
  refine (Ab.told_calls h1 (Ab.VTs.mk1 h2)).2.mono ?_
  rintro _ w' ⟨v, rfl, σ', g1, g2, x, y, rfl, ⟨A, rfl, hA⟩, ⟨z, rfl, _⟩⟩
  exact ⟨A, z, rfl, ans_open g2 hA, g1.ro h3⟩
end Stn
end Go.Proofs.YtmonkggoilhngaaGreatDoor
/- Arguments opened: two slices of bytes in an array; the tables of the program. -/
namespace Go.Proofs.YtmonkggoilhngaaGreatDoor
open Go.ChangeShapes Go.WideShapes Go.ChangeAt Go.RowKit Mem Sha
namespace Wrap
section
variable {H : Type} {enc : TypeId × Value → H} {W : World} {base : Nat}
set_option maxRecDepth 100000 in
theorem trod_arrE {P : Program} {n fuel : Nat} {t e : TypeId} {cs : List Value} {x : DataW H × List MemPlace} (ht : P.underlying t = some (.array n e)) (h : DataW.trod enc P W 0 (fun _ => true) true fuel t cs = some x) :
    cs.length = P.cellsOf t ∧ ∃ k, ∀ i, i < n → ∃ y, DataW.trod enc P W 0 (fun _ => true) true k e ((cs.drop (i * P.cellsOf e)).take (P.cellsOf e)) = some y := by
  cases fuel with
  | zero => simp [DataW.trod] at h
  | succ k =>
    unfold DataW.trod at h
    rw [ht] at h
    split at h <;> simp_all
    obtain ⟨_, xs, hxs, _⟩ := h
    refine ⟨k, fun i hi => ?_⟩
    have h1 := mapM_some_length hxs
    rw [List.length_range] at h1
    have := mapM_some_get hxs i i (by simp [hi])
    rw [List.getElem?_eq_getElem (by omega)] at this
    exact ⟨_, _, this⟩
set_option maxRecDepth 100000 in
theorem cellsAt_ok {q : Option Addr} {n c : Nat} (hv : Value.okWide Tryz.prog W .any base 23 (.slice q n c)) : Ab.CellsAt W q := by
  intro a ha
  subst ha
  unfold Value.okWide at hv
  rw [Tryz.underlying23] at hv
  simp only [Cell.okWide, Tryz.underlying23, Cell.ok] at hv
  obtain ⟨_, _, _, h1, row, cells, h2, _⟩ := hv
  unfold World.shape? at h2
  split at h2
  · rename_i C t f hh
    exact ⟨C, t, f, hh⟩
  · cases h2
set_option maxRecDepth 100000 in
theorem cells_one {u : Value} (hv : Value.okWide Tryz.prog W .any base 23 u) : u.cells.toList = [u] := by
  unfold Value.okWide at hv
  rw [Tryz.underlying23] at hv
  simp only [Cell.okWide, Tryz.underlying23, Cell.ok] at hv
  cases u <;> first | rfl | exact absurd hv (by simp)
set_option maxRecDepth 100000 in
theorem types2 : Tryz.prog.cellTypes Tryz.prog.depth 24 = some [23, 23] := by kernel_rfl
set_option maxRecDepth 100000 in
/-- An argument of type [2][]byte. -/
theorem open_two {v : Value} {d : DataW H} {p : List MemPlace} (hv : Value.okWide Tryz.prog W .any base 24 v) (h : DataW.Trod enc Tryz.prog W 0 (fun _ => true) true 24 v d p) :
    ∃ q0 c0 X q1 c1 Y, v = .agg #[.slice q0 (List.length X) c0, .slice q1 (List.length Y) c1] ∧ Rd W 1 (.slice q0 X.length c0) X.length (bys X) ∧ Rd W 1 (.slice q1 Y.length c1) Y.length (bys Y) ∧ Ab.CellsAt W q0 ∧ Ab.CellsAt W q1 := by
  unfold Value.okWide at hv
  rw [Tryz.underlying24] at hv
  obtain ⟨cs, rfl, hsz, ts, hts, _, hc⟩ := hv
  obtain rfl := Option.some.inj (types2.symm.trans hts)
  have h2 : cs.size = 2 := hsz.trans (by kernel_rfl)
  obtain ⟨u0, u1, rfl⟩ : ∃ u0 u1, cs = #[u0, u1] := by
    obtain ⟨l⟩ := cs
    match l, h2 with
    | [a, b], _ => exact ⟨a, b, rfl⟩
  have ok : ∀ u, Cell.okWide Tryz.prog W .any base 23 u → Value.okWide Tryz.prog W .any base 23 u := fun u hu => by
    unfold Value.okWide
    rw [Tryz.underlying23]
    exact hu
  obtain ⟨t0, e0, k0⟩ := hc 0 u0 rfl
  obtain ⟨t1, e1, k1⟩ := hc 1 u1 rfl
  cases e0
  cases e1
  have o0 := ok u0 k0
  have o1 := ok u1 k1
  obtain ⟨fuel, h⟩ := h
  obtain ⟨_, k, hk⟩ := trod_arrE Tryz.underlying24 h
  rw [cellsSl] at hk
  obtain ⟨⟨d0, p0⟩, y0⟩ := hk 0 (by decide)
  obtain ⟨⟨d1, p1⟩, y1⟩ := hk 1 (by decide)
  have y0 : DataW.trod enc Tryz.prog W 0 (fun _ => true) true k 23 [u0] = some (d0, p0) := y0
  have y1 : DataW.trod enc Tryz.prog W 0 (fun _ => true) true k 23 [u1] = some (d1, p1) := y1
  obtain ⟨q0, c0, X, rfl, hx⟩ := open_bytes o0 ⟨k, by rw [cells_one o0]; exact y0⟩
  obtain ⟨q1, c1, Y, rfl, hy⟩ := open_bytes o1 ⟨k, by rw [cells_one o1]; exact y1⟩
  exact ⟨q0, c0, X, q1, c1, Y, rfl, hx, hy, cellsAt_ok o0, cellsAt_ok o1⟩
end
def zsOf : DataW Unit → List Int
  | .agg l => l.map fun x => match x with | .lit (.int _ n) => n | _ => 0
  | _ => []
set_option maxRecDepth 100000 in
theorem wt_of {W : World} (h : ∀ x ∈ Ab.gtL.l, ∃ C t f, W.heap[x.1]? = some (.cells C t f) ∧ Ab.ksB C.toList x.2 = true) (hm : ∃ t f, W.heap[(8 : Nat)]? = some (.cells Ab.mod4 t f)) : Ab.WT Ab.gtL Ab.tabS W := by
  refine ⟨fun g l hg => by unfold Ab.tabS; rw [Ab.tabS_mem (g, l) hg]; rfl, fun g C hg => ?_, fun b m l hb => ?_⟩
  · simp only [Ab.gtL, List.mem_singleton, Prod.mk.injEq] at hg
    obtain ⟨rfl, rfl⟩ := hg
    exact ⟨⟨Ab.w4, by unfold Ab.tabS; rw [Ab.tabS_mem (8, Ab.w4) (by simp [Ab.gtL])]; rfl⟩, hm⟩
  · unfold Ab.tabS at hb
    obtain ⟨l', h1, h2⟩ := Option.map_eq_some_iff.1 hb
    cases h2
    obtain ⟨C, t, f, h3, h4⟩ := h _ (Ab.gOf_mem h1)
    exact ⟨C, t, f, h3, (fun h => nomatch h), (Ab.ksB_ok h4).mono (fun b x hb => by simp [Ab.nil0] at hb)⟩
set_option maxRecDepth 100000 in
theorem std_tabs {W : World} {laid : List (String × DataW Unit)} (h : laidMet Tryz.prog laid W) (h1 : ("custumal/field.modulus", Rows.laid_custumal_field_modulus) ∈ laid) (h2 : ("custumal/field.imaginary", Rows.laid_custumal_field_imaginary) ∈ laid) (h3 : ("custumal/scalar.order", Rows.laid_custumal_scalar_order) ∈ laid) (h4 : ("custumal/edwards.baseX", Rows.laid_custumal_edwards_baseX) ∈ laid) (h5 : ("custumal/edwards.baseY", Rows.laid_custumal_edwards_baseY) ∈ laid) (h6 : ("custumal/edwards.double", Rows.laid_custumal_edwards_double) ∈ laid) (h7 : ("custumal/edwards.curve", Rows.laid_custumal_edwards_curve) ∈ laid) (h8 : ("custumal/sha5.start", Rows.laid_custumal_sha5_start) ∈ laid) (h9 : ("custumal/sha5.rounds", Rows.laid_custumal_sha5_rounds) ∈ laid) : Ab.WT Ab.gtL Ab.tabS W := by
  obtain ⟨t1, f1, r1⟩ := tab_row (k := .u64) (zs := zsOf Rows.laid_custumal_field_modulus) (g := 8) (t := 134) (e := 112) (n := 4) (by kernel_rfl) (by kernel_rfl) (by kernel_rfl) (by kernel_rfl) (by kernel_rfl) (by kernel_rfl) h (by exact h1)
  obtain ⟨t2, f2, r2⟩ := tab_row (k := .u64) (zs := zsOf Rows.laid_custumal_field_imaginary) (g := 9) (t := 134) (e := 112) (n := 4) (by kernel_rfl) (by kernel_rfl) (by kernel_rfl) (by kernel_rfl) (by kernel_rfl) (by kernel_rfl) h (by exact h2)
  obtain ⟨t3, f3, r3⟩ := tab_row (k := .u64) (zs := zsOf Rows.laid_custumal_scalar_order) (g := 5) (t := 139) (e := 112) (n := 4) (by kernel_rfl) (by kernel_rfl) (by kernel_rfl) (by kernel_rfl) (by kernel_rfl) (by kernel_rfl) h (by exact h3)
  obtain ⟨t4, f4, r4⟩ := tab_row (k := .u64) (zs := zsOf Rows.laid_custumal_edwards_baseX) (g := 2) (t := 134) (e := 112) (n := 4) (by kernel_rfl) (by kernel_rfl) (by kernel_rfl) (by kernel_rfl) (by kernel_rfl) (by kernel_rfl) h (by exact h4)
  obtain ⟨t5, f5, r5⟩ := tab_row (k := .u64) (zs := zsOf Rows.laid_custumal_edwards_baseY) (g := 3) (t := 134) (e := 112) (n := 4) (by kernel_rfl) (by kernel_rfl) (by kernel_rfl) (by kernel_rfl) (by kernel_rfl) (by kernel_rfl) h (by exact h5)
  obtain ⟨t6, f6, r6⟩ := tab_row (k := .u64) (zs := zsOf Rows.laid_custumal_edwards_double) (g := 4) (t := 134) (e := 112) (n := 4) (by kernel_rfl) (by kernel_rfl) (by kernel_rfl) (by kernel_rfl) (by kernel_rfl) (by kernel_rfl) h (by exact h6)
  obtain ⟨t7, f7, r7⟩ := tab_row (k := .u64) (zs := zsOf Rows.laid_custumal_edwards_curve) (g := 6) (t := 134) (e := 112) (n := 4) (by kernel_rfl) (by kernel_rfl) (by kernel_rfl) (by kernel_rfl) (by kernel_rfl) (by kernel_rfl) h (by exact h7)
  obtain ⟨t8, f8, r8⟩ := tab_row (k := .u64) (zs := zsOf Rows.laid_custumal_sha5_start) (g := 7) (t := 183) (e := 112) (n := 8) (by kernel_rfl) (by kernel_rfl) (by kernel_rfl) (by kernel_rfl) (by kernel_rfl) (by kernel_rfl) h (by exact h8)
  obtain ⟨t9, f9, r9⟩ := tab_row (k := .u64) (zs := zsOf Rows.laid_custumal_sha5_rounds) (g := 10) (t := 197) (e := 112) (n := 80) (by kernel_rfl) (by kernel_rfl) (by kernel_rfl) (by kernel_rfl) (by kernel_rfl) (by kernel_rfl) h (by exact h9)
  refine wt_of (fun x hx => ?_) ⟨t1, f1, r1⟩
  simp only [Ab.gtL, List.mem_cons, List.not_mem_nil, or_false] at hx
  rcases hx with rfl | rfl | rfl | rfl | rfl | rfl | rfl | rfl | rfl
  · exact ⟨_, t1, f1, r1, by kernel_rfl⟩
  · exact ⟨_, t2, f2, r2, by kernel_rfl⟩
  · exact ⟨_, t3, f3, r3, by kernel_rfl⟩
  · exact ⟨_, t4, f4, r4, by kernel_rfl⟩
  · exact ⟨_, t5, f5, r5, by kernel_rfl⟩
  · exact ⟨_, t6, f6, r6, by kernel_rfl⟩
  · exact ⟨_, t7, f7, r7, by kernel_rfl⟩
  · exact ⟨_, t8, f8, r8, by kernel_rfl⟩
  · exact ⟨_, t9, f9, r9, by kernel_rfl⟩
end Wrap
end Go.Proofs.YtmonkggoilhngaaGreatDoor

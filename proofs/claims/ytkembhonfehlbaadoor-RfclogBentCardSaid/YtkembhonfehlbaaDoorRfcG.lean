/- The walk of custumallaw16.logs: it is true. -/
import Derived.Test.YtkembhonfehlbaaDoorRfcF
import Derived.Test.YtkembhonfehlbaaDoorRfcI
namespace Go.Proofs.YtkembhonfehlbaaDoor
open Go.RowKit Bits Mem Sha
namespace Ref
theorem path3 (a b c : List UInt8) : (Rfc.path nodeS (sha []) [a, b, c] 2).length = 1 := by
  have h3 : Rfc.hf ([a, b, c] : List (List UInt8)).length = 2 := by
    show Rfc.hf 3 = 2
    exact Rfc.hf_unique 3 1 (by decide) (by decide) (by decide)
  rw [Rfc.path_right _ _ _ _ (by simp) (by rw [h3]; decide), h3]
  show (Rfc.path nodeS (sha []) [c] 0 ++ _).length = 1
  rw [Rfc.path_one _ _ _ _ (by simp)]
  rfl
theorem RawParts.of_parts {w : World} {v : Value} {L : List (List UInt8)} (h : Parts w v L) : RawParts w v L := by
  obtain ⟨vs, h1, h2⟩ := h
  exact ⟨vs, h1, fun i hi => let ⟨q, c, e, hr⟩ := h2 i hi; ⟨q, c, e, .inl hr⟩⟩
set_option maxRecDepth 100000 in
set_option maxHeartbeats 8000000 in
theorem logs_any (w : World) (hS : Sha.Tabs w) (hR : Ref.Tabs w) :
    Calls Tryd.prog 23 #[] w fun e w' => e = .returned (.bool true) ∧ Below w.heap.size w w' := by
  have HS := Lib.hid hS
  have HR := Lib.hid hR
  clear hS hR
  obtain ⟨w4, hw4⟩ : ∃ w4, w4 = (((w.alloc (.cells #[.int .u8 1] 5)).alloc (.cells #[.int .u8 2] 5)).alloc (.cells #[.int .u8 3] 5)).alloc (.cells #[.slice (some ⟨w.heap.size, 0, none⟩) 1 1, .slice (some ⟨w.heap.size + 1, 0, none⟩) 1 1, .slice (some ⟨w.heap.size + 1 + 1, 0, none⟩) 1 1] 23) := ⟨_, rfl⟩
  have hb4 : Below w.heap.size w w4 := by rw [hw4]; exact ((((Below.refl _ _).alloc (Nat.le_refl _) _).alloc (by simp) _).alloc (by simp <;> omega) _).alloc (by simp <;> omega) _
  have hp : Parts w4 (.slice (some ⟨w.heap.size + 1 + 1 + 1, 0, none⟩) 3 3) [[1], [2], [3]] := by
    have r : ∀ g (x : UInt8) o, w4.heap[g]? = some (.cells #[.int .u8 (x.toNat : Int)] o (0, 0)) → Rd w4 1 (.slice (some ⟨g, 0, none⟩) 1 1) 1 (bys [x]) := fun g x o h => Rp3.row (l := [x]) h rfl (by decide)
    refine Rp3.of3 (a := [1]) (b := [2]) (c := [3]) ?_ ⟨_, _, rfl, r w.heap.size 1 5 ?_⟩ ⟨_, _, rfl, r (w.heap.size + 1) 2 5 ?_⟩ ⟨_, _, rfl, r (w.heap.size + 1 + 1) 3 5 ?_⟩
    · have := Rd_lit (((w.alloc (.cells #[.int .u8 1] 5)).alloc (.cells #[.int .u8 2] 5)).alloc (.cells #[.int .u8 3] 5)) #[.slice (some ⟨w.heap.size, 0, none⟩) 1 1, .slice (some ⟨w.heap.size + 1, 0, none⟩) 1 1, .slice (some ⟨w.heap.size + 1 + 1, 0, none⟩) 1 1] 23 1 3 rfl (by decide)
      rw [← hw4] at this
      simpa using this
    · rw [hw4, Rg.heap_alloc_past _ _ _ (by simp <;> omega), Rg.heap_alloc_past _ _ _ (by simp <;> omega), Rg.heap_alloc_past _ _ _ (by simp)]; exact Rg.heap_alloc_at _ _ _ rfl
    · rw [hw4, Rg.heap_alloc_past _ _ _ (by simp <;> omega), Rg.heap_alloc_past _ _ _ (by simp)]; exact Rg.heap_alloc_at _ _ _ (by simp)
    · rw [hw4, Rg.heap_alloc_past _ _ _ (by simp)]; exact Rg.heap_alloc_at _ _ _ (by simp)
  have HW4 := Lib.hid hw4
  have HB4 := Lib.hid hb4
  have HP := Lib.hid hp
  clear hw4 hb4 hp
  go_enter Tryd.func23, Tryd.ntmps23
  go_wp2_with fail
  rw [← HW4.out]
  refine (fill_any (some ⟨w.heap.size + 1 + 1 + 1, 0, none⟩) 3 [[1], [2], [3]] w4 (HS.out.below HB4.out) (RawParts.of_parts HP.out)).mono ?_
  rintro e w5 ⟨lb, base, lq, lc, qw, cw, rfl, h1, h2, h3, hL, hO, hb5⟩
  obtain ⟨D, hD⟩ : ∃ D, D = (few [[1], [2], [3]] 20 60).map leafS := ⟨_, rfl⟩
  rw [show few ([[1], [2], [3]] : List (List UInt8)) 20 60 = [[1], [2], [3]] from rfl] at hO hD ⊢
  rw [show few ([[1], [2], [3]] : List (List UInt8)) 20 60 = [[1], [2], [3]] from rfl, ← hD] at hL
  have HB5 : Hid (Below w.heap.size w w5) := Lib.hid (HB4.out.trans (hb5.mono HB4.out.size))
  have HL5 := Lib.hid hL
  have HO5 := Lib.hid (Rd.of_ow hO)
  have hDl : D.length = 3 := by rw [hD]; rfl
  have HPL : Hid ((Rfc.path nodeS (sha []) (D.take 3) 2).length = 1) := Lib.hid (by rw [hD]; exact path3 _ _ _)
  have HDE := Lib.hid hD
  clear hL hO hb5 hD h1 h2 h3
  go_wp2_with fail
  refine (inclusion_any lb base lq lc D 2 3 w5 (HS.out.below HB5.out) HL5.out (by omega) (by omega) (by omega) (by rw [HPL.out]; exact rev_short 1 (Nat.le_refl _))).mono ?_
  rintro e w6 ⟨pq, pc, rfl, _, hb6⟩
  rw [HPL.out]
  have HB6 : Hid (Below w.heap.size w w6) := Lib.hid (HB5.out.trans (hb6.mono HB5.out.size))
  have HL6 := Lib.hid (HL5.out.below hb6)
  have HO6 := Lib.hid (HO5.out.below hb6)
  clear hb6
  go_wp2_with fail
  refine (logroot_any lb base lq lc D 3 w6 (HS.out.below HB6.out) HL6.out (by omega)).mono ?_
  rintro e w7 ⟨rfl, hb7⟩
  have HTL : Hid ((treeS D).length = 32) := Lib.hid (by rw [HDE.out]; exact treeS_length _ (fun x hx => by obtain ⟨y, _, rfl⟩ := List.mem_map.1 hx; exact leafS_length y))
  obtain ⟨R, hR⟩ : ∃ R, R = treeS D := ⟨_, rfl⟩
  have hra : rootAns D 3 = .tuple #[.agg (bysA R), .int .i64 0] := by
    unfold rootAns
    rw [if_pos (by omega), show ((3 : Int)).toNat = 3 from rfl, List.take_of_length_le (by omega), hR]
  rw [hra]
  rw [← hR] at HTL
  have HRE := Lib.hid hR
  have HB7 : Hid (Below w.heap.size w w7) := Lib.hid (HB6.out.trans (hb7.mono HB6.out.size))
  have HO7 := Lib.hid (HO6.out.below hb7)
  have HIR : Hid ((Tryd.prog.info? 22).map (·.size) = some (bysA R).size) := Lib.hid (by rw [bysA_size, HTL.out]; exact info32)
  clear hb7 hra hR
  go_wp2_with (refine Rg.store_row_new rfl 22 _ _ rfl w7.heap.size rfl rfl 22 _ (bysA R) rfl HIR.out (by rw [bysA_size, HTL.out]; rfl) (bysA_one _) ?_)
  obtain ⟨rb, hrb⟩ : ∃ rb, rb = w7.heap.size := ⟨_, rfl⟩
  obtain ⟨w8, hw8⟩ : ∃ w8, w8 = (w7.alloc (.cells (bysA R) 22)).alloc (.cells #[.int .u8 1] 5) := ⟨_, rfl⟩
  have hb8 : Below w7.heap.size w7 w8 := by rw [hw8]; exact ((Below.refl _ _).alloc (Nat.le_refl _) _).alloc (by simp) _
  have HRR : Hid (w8.heap[rb]? = some (.cells (bysA R) 22 (0, 0))) := Lib.hid (by rw [hw8]; exact (Rg.heap_alloc_past _ _ _ (by simp [hrb])).trans (Rg.heap_alloc_at _ _ _ hrb))
  have hr1 : Rd w8 1 (.slice (some ⟨w7.heap.size + 1, 0, none⟩) 1 1) 1 (bys [1]) := by
    have := Rd_lit (w7.alloc (.cells (bysA R) 22)) #[.int .u8 1] 5 1 1 rfl (by decide)
    rw [← hw8, World.size_alloc] at this
    exact this
  have HB8 : Hid (Below w.heap.size w w8) := Lib.hid (HB7.out.trans (hb8.mono HB7.out.size))
  have HO8 := Lib.hid (HO7.out.below hb8)
  rw [← hrb] at hr1
  rw [← hw8, ← hrb]
  refine (entrySum_any (some ⟨rb + 1, 0, none⟩) 1 [1] w8 (HS.out.below HB8.out) hr1 (by decide)).mono ?_
  rintro e w9 ⟨rfl, hb9⟩
  obtain ⟨E, hE⟩ : ∃ E, E = leafS [1] := ⟨_, rfl⟩
  rw [← hE]
  have HEL : Hid (E.length = 32) := Lib.hid (by rw [hE]; exact leafS_length _)
  have HEE := Lib.hid hE
  have HIE : Hid ((Tryd.prog.info? 22).map (·.size) = some (bysA E).size) := Lib.hid (by rw [bysA_size, HEL.out]; exact info32)
  obtain ⟨wa, hwa⟩ : ∃ wa, wa = w9.alloc (.cells (bysA E) 22) := ⟨_, rfl⟩
  have hba : Below w9.heap.size w9 wa := by rw [hwa]; exact (Below.refl _ _).alloc (Nat.le_refl _) _
  have h8a : Below w8.heap.size w8 wa := hb9.trans (hba.mono hb9.size)
  have HRA := Lib.hid (Rp.row_le h8a HRR.out)
  have HEA : Hid (wa.heap[w9.heap.size]? = some (.cells (bysA E) 22 (0, 0))) := Lib.hid (by rw [hwa]; exact Rg.heap_alloc_at _ _ _ rfl)
  have HBA : Hid (Below w.heap.size w wa) := Lib.hid (HB8.out.trans (h8a.mono HB8.out.size))
  have HOA := Lib.hid (HO8.out.below h8a)
  have HWA := Lib.hid hwa
  clear hwa hba h8a hb9 hE hr1 hb8 hw8 hrb
  go_wp2_with (refine Rg.store_row_new rfl 22 _ _ rfl w9.heap.size rfl rfl 22 _ (bysA E) rfl HIE.out (by rw [bysA_size, HEL.out]; rfl) (bysA_one _) ?_)
  rw [← HWA.out]
  obtain ⟨eb, heb⟩ : ∃ eb, eb = w9.heap.size := ⟨_, rfl⟩
  rw [← heb] at HEA ⊢
  clear heb
  refine Rc.region (wa.heap.size) 24 [Rc.F 15 (fun _ => .string ⟨R.toArray⟩) (fun _ _ _ => True), Rc.F 21 (fun _ => .string ⟨E.toArray⟩) (fun _ _ _ => True)] [] (by kernel_rfl) (Nat.le_refl _) (by kernel_rfl) ?_; intro p; simp only [List.take, List.drop]
  iterate 13 (refine Rc.rK rfl rfl ?_; intro K hK; apply Exists.intro; refine ⟨?_, ?_⟩; (focus (intro x hx;  go_simp; (first | (fail) | ((try go_bits); (try go_simp); (try rfl))))); go_simp; refine hK _ ?_; clear hK K)
  refine Rc.r_str rfl rfl 23 9 _ rfl 5 Tryd.underlying9 Tryd.underlying23 Tryd.underlying5 _ _ (R) rfl (fun x hx => Rp3.row (Rp.row_le (Rc.undrew hx) HRA.out) HTL.out (by decide)) ?_; intro K hK; go_simp; refine hK _ ?_; clear hK K
  iterate 1 (refine Rc.rK rfl rfl ?_; intro K hK; apply Exists.intro; refine ⟨?_, ?_⟩; (focus (intro x hx;  go_simp; (first | (fail) | ((try go_bits); (try go_simp); (try rfl))))); go_simp; refine hK _ ?_; clear hK K)
  refine Rc.fK rfl rfl rfl rfl ?_ ?_
  · intro x Fs hx hle hg K hK
    have hs := refsum_any 3 [[1], [2], [3]] qw cw x rfl (by decide) (by decide) (HR.out.below (HBA.out.trans ((Rc.undrew hx).mono HBA.out.size))) (HOA.out.below (Rc.undrew hx))
    rw [← HDE.out, ← HRE.out] at hs
    go_wp2_with fail
    refine hs.mono ?_
    rintro e x' ⟨rfl, hb⟩
    go_wp2_with fail
    exact hK Rc.dflt x' hb (fun _ _ _ _ => trivial)
  intro K hK; go_simp; refine hK _ ?_; clear hK K
  iterate 4 (refine Rc.rK rfl rfl ?_; intro K hK; apply Exists.intro; refine ⟨?_, ?_⟩; (focus (intro x hx;  go_simp; (first | (fail) | ((try go_bits); (try go_simp); (try rfl))))); go_simp; refine hK _ ?_; clear hK K)
  refine Rc.r_str rfl rfl 23 9 _ rfl 5 Tryd.underlying9 Tryd.underlying23 Tryd.underlying5 _ _ (E) rfl (fun x hx => Rp3.row (Rp.row_le (Rc.undrew hx) HEA.out) HEL.out (by decide)) ?_; intro K hK; go_simp; refine hK _ ?_; clear hK K
  refine Rc.fK rfl rfl rfl rfl ?_ ?_
  · intro x Fs hx hle hg K hK
    have hs := sum_any ⟨([0, 1] : List UInt8).toArray⟩ [0, 1] (by rfl) x (HR.out.below (HBA.out.trans ((Rc.undrew hx).mono HBA.out.size))) (by decide)
    rw [show sha [0, 1] = E from HEE.out.symm] at hs
    go_wp2_with fail
    refine hs.mono ?_
    rintro e x' ⟨rfl, hb⟩
    go_wp2_with fail
    exact hK Rc.dflt x' hb (fun _ _ _ _ => trivial)
  intro K hK; go_simp; refine hK _ ?_; clear hK K
  iterate 2 (refine Rc.rK rfl rfl ?_; intro K hK; apply Exists.intro; refine ⟨?_, ?_⟩; (focus (intro x hx;  go_simp; (first | (fail) | ((try go_bits); (try go_simp); (try rfl))))); go_simp; refine hK _ ?_; clear hK K)
  refine Rc.done fun x Fs hx hle hg => ?_
  have HX : Hid (Below w.heap.size w x) := Lib.hid (HBA.out.trans ((Rc.undrew hx).mono HBA.out.size))
  clear hx hle hg
  go_wp2_with fail
  refine NoPanic.normal ?_
  go_wp2_with fail
  go_ret
  exact ⟨rfl, HX.out⟩
end Ref
end Go.Proofs.YtkembhonfehlbaaDoor

/- The walks of the document's node and Sum of layer 16. -/
import Derived.Test.YtkembhonfehlbaaDoorRfcL
import Derived.Test.YtkembhonfehlbaaDoorCutLo
import Derived.Test.YtkembhonfehlbaaDoorRefB
namespace Go.Proofs.YtkembhonfehlbaaDoor
open Go.RowKit Bits Mem Sha
namespace Ref
def strs (T : List (List UInt8)) : List Value := T.map fun t => .string ⟨t.toArray⟩
theorem strs_length (T : List (List UInt8)) : (strs T).length = T.length := by simp [strs]
theorem strs_append (T U : List (List UInt8)) : strs (T ++ U) = strs T ++ strs U := by simp [strs]
theorem strs_get {T : List (List UInt8)} {k : Nat} (h : k < T.length) : (strs T)[k]? = some (.string ⟨(T.getD k []).toArray⟩) := by simp [strs, List.getD, h]
theorem strs_one (T : List (List UInt8)) : ∀ u ∈ strs T, u.oneCell' = true := by
  intro u hu; simp [strs] at hu; obtain ⟨x, _, rfl⟩ := hu; rfl
@[go_sem] theorem bstr_append16 (a b : List UInt8) : (⟨a.toArray⟩ : ByteArray) ++ ⟨b.toArray⟩ = ⟨(a ++ b).toArray⟩ := by
  apply ByteArray.ext
  simp
theorem infoStr16 : (Tryd.prog.info? 9).map (fun i => (i.zero, i.size, i.bytes)) = some (some (.string ⟨#[]⟩), 1, 16) := by kernel_rfl
/-- A row of one-celled values, cut in front and behind. -/
theorem Rd_take1 {w : World} {q : Option Addr} {c n k : Nat} {xs : List Value} (h : Rd w 1 (.slice q n c) n xs) (hk : k ≤ n) : Rd w 1 (.slice q k c) k (xs.take k) := by
  obtain ⟨h1, h2⟩ := h
  refine ⟨by rw [List.length_take, h1]; omega, ?_⟩
  rcases h2 with ⟨hv, h0⟩ | ⟨b, off, cap, hv, hb, hnc, hcm, hc⟩
  · injection hv with a1 a2 a3
    exact .inl ⟨by rw [a1, a3, show k = 0 by omega], by omega⟩
  · injection hv with a1 a2 a3
    subst a1 a3
    refine .inr ⟨b, off, c, rfl, hb, by omega, hcm, fun j u hj => hc j u ?_⟩
    rw [List.getElem?_take] at hj
    split at hj
    · exact hj
    · cases hj
theorem Rd_drop1 {w : World} {b off c n k : Nat} {xs : List Value} (h : Rd w 1 (.slice (some ⟨b, off, none⟩) n c) n xs) (hk : k ≤ n) : Rd w 1 (.slice (some ⟨b, off + k, none⟩) (n - k) (c - k)) (n - k) (xs.drop k) := by
  obtain ⟨h1, h2⟩ := h
  refine ⟨by rw [List.length_drop, h1]; omega, ?_⟩
  rcases h2 with ⟨hv, _⟩ | ⟨b', off', cap, hv, hb, hnc, hcm, hc⟩
  · cases hv
  · cases hv
    refine .inr ⟨b, off + k, c - k, rfl, hb, by omega, by omega, fun j u hj => ?_⟩
    rw [List.getElem?_drop] at hj
    rw [Nat.add_assoc]
    exact hc _ u hj
set_option maxRecDepth 100000 in
set_option maxHeartbeats 1000000 in
theorem refnode_any (a b : List UInt8) (w : World) (hR : Ref.Tabs w) (ha : a.length ≤ 1000000) (hb : b.length ≤ 1000000) :
    Calls Tryd.prog 55 #[.string ⟨a.toArray⟩, .string ⟨b.toArray⟩] w fun e w' => e = .returned (.string ⟨(nodeS a b).toArray⟩) ∧ Below w.heap.size w w' := by
  have HR := Lib.hid hR; clear hR
  have hl : (1 :: (a ++ b)).length ≤ 70368744177664 := by simp; omega
  go_enter Tryd.func55, Tryd.ntmps55
  go_wp2_with fail
  refine (sum_any ⟨(1 :: (a ++ b)).toArray⟩ (1 :: (a ++ b)) (by rfl) _ HR.out hl).mono ?_
  rintro e w1 ⟨rfl, hb1⟩
  go_wp2_with fail
  go_ret
  exact ⟨rfl, hb1⟩
set_option maxRecDepth 100000 in
set_option maxHeartbeats 4000000 in
theorem refsum_any (n : Nat) : ∀ (T : List (List UInt8)) (q : Option Addr) (c : Nat) (w : World), T.length = n → n ≤ 1000 → (∀ x ∈ T, x.length ≤ 1000000) → Ref.Tabs w → Rd w 1 (.slice q T.length c) T.length (strs T) →
    Calls Tryd.prog 28 #[.slice q T.length c] w fun e w' => e = .returned (.string ⟨(treeS (T.map leafS)).toArray⟩) ∧ Below w.heap.size w w' := by
  induction n using Nat.strongRecOn with
  | _ n ih =>
    intro T q c w hn hn1 hT hR hrd
    have HIH := Lib.hid ih
    have HR := Lib.hid hR
    have HT := Lib.hid hT
    have hcap := Rd_cap hrd
    have HRD := Lib.hid hrd
    clear ih hR hT hrd
    by_cases h0 : T = []
    · subst h0
      go_enter Tryd.func28, Tryd.ntmps28
      go_wp2_with fail
      refine (sum_any ⟨([] : List UInt8).toArray⟩ [] (by rfl) _ HR.out (by decide)).mono ?_
      rintro e w1 ⟨rfl, hb1⟩
      go_wp2_with fail
      go_ret
      exact ⟨by rw [show treeS (([] : List (List UInt8)).map leafS) = sha [] from Rfc.mth_nil _ _]; rfl, hb1⟩
    · by_cases h1 : T.length = 1
      · obtain ⟨x, rfl⟩ : ∃ x, T = [x] := List.length_eq_one_iff.1 h1
        obtain ⟨b, off, hqe, hb, hnc, hcm, hcell⟩ := Rd_lt HRD.out (by simp)
        subst hqe
        have cx : w.cell? ⟨b, off, none⟩ = some (.string ⟨x.toArray⟩) := hcell 0 _ rfl
        have hxl : (0 :: x).length ≤ 70368744177664 := by have := HT.out x (by simp); simp; omega
        have hx' : x.length ≤ 1000000 := HT.out x (by simp)
        clear hcell
        go_enter Tryd.func28, Tryd.ntmps28
        go_wp2_with fail
        refine (sum_any ⟨(0 :: x).toArray⟩ (0 :: x) (by rfl) _ HR.out hxl).mono ?_
        rintro e w1 ⟨rfl, hb1⟩
        go_wp2_with fail
        go_ret
        exact ⟨by rw [show treeS ([x].map leafS) = leafS x from Rfc.mth_one _ _ _]; rfl, hb1⟩
      · have h2 : 2 ≤ n := by
          rcases T with _ | ⟨x, _ | ⟨y, T⟩⟩
          · exact absurd rfl h0
          · exact absurd rfl h1
          · simp at hn; omega
        obtain ⟨b, off, hqe, hb, hnc, hcm, hcell⟩ := Rd_lt HRD.out (by omega)
        subst hqe
        rw [hn] at HRD hnc ⊢
        have hk1 := Rfc.hf_lt n h2
        have hk0 := Rfc.hf_pos n
        have HTR : Hid (treeS (T.map leafS) = nodeS (treeS ((T.take (Rfc.hf n)).map leafS)) (treeS ((T.drop (Rfc.hf n)).map leafS))) := Lib.hid (by
          unfold treeS
          rw [Rfc.mth_big _ _ _ (by rw [List.length_map]; omega), List.length_map, hn, List.map_take, List.map_drop])
        have HHF := Lib.hid (refhalf_any n · h2 (by omega))
        obtain ⟨k, hk⟩ : ∃ k, k = Rfc.hf n := ⟨_, rfl⟩
        rw [← hk] at hk1 hk0 HTR HHF
        obtain ⟨A, hA⟩ : ∃ A, A = treeS ((T.take k).map leafS) := ⟨_, rfl⟩
        obtain ⟨B, hB⟩ : ∃ B, B = treeS ((T.drop k).map leafS) := ⟨_, rfl⟩
        have hall : ∀ U : List (List UInt8), ∀ x ∈ U.map leafS, x.length = 32 := fun U x hx => by obtain ⟨y, _, rfl⟩ := List.mem_map.1 hx; exact leafS_length y
        have HAL : Hid (A.length = 32) := Lib.hid (by rw [hA]; exact treeS_length _ (hall _))
        have HBL : Hid (B.length = 32) := Lib.hid (by rw [hB]; exact treeS_length _ (hall _))
        rw [← hA, ← hB] at HTR
        have HA : Hid (∀ x : World, Below w.heap.size w x → Calls Tryd.prog 28 #[.slice (some ⟨b, off, none⟩) k c] x fun e w' => e = .returned (.string ⟨A.toArray⟩) ∧ Below x.heap.size x w') := Lib.hid (fun x hx => by
          have hl : (T.take k).length = k := by rw [List.length_take]; omega
          have := HIH.out k hk1 (T.take k) (some ⟨b, off, none⟩) c x hl (by omega) (fun y hy => HT.out y (List.mem_of_mem_take hy)) (HR.out.below hx) (by
            have := Rd_take1 (HRD.out.below hx) (Nat.le_of_lt hk1)
            rw [hl]
            unfold strs at this ⊢
            rwa [← List.map_take] at this)
          rw [hl, ← hA] at this
          exact this)
        have HB : Hid (∀ x : World, Below w.heap.size w x → Calls Tryd.prog 28 #[.slice (some ⟨b, off + k, none⟩) (n - k) (c - k)] x fun e w' => e = .returned (.string ⟨B.toArray⟩) ∧ Below x.heap.size x w') := Lib.hid (fun x hx => by
          have hl : (T.drop k).length = n - k := by rw [List.length_drop]; omega
          have := HIH.out (n - k) (by omega) (T.drop k) (some ⟨b, off + k, none⟩) (c - k) x hl (by omega) (fun y hy => HT.out y (List.mem_of_mem_drop hy)) (HR.out.below hx) (by
            have := Rd_drop1 (HRD.out.below hx) (Nat.le_of_lt hk1)
            rw [hl]
            unfold strs at this ⊢
            rwa [← List.map_drop] at this)
          rw [hl, ← hB] at this
          exact this)
        have hkI : (k : Int) ≤ (c : Int) := by omega
        have hkn : (k : Int) ≤ (n : Int) := by omega
        have hkn' : k < n := hk1
        obtain ⟨i0, hi0, hz0, hz1, hz2⟩ := parts3 infoStr16
        have hE0 : ((n : Int) == 0) = false := by rw [beq_eq_false_iff_ne]; omega
        have hE1 : ((n : Int) == 1) = false := by rw [beq_eq_false_iff_ne]; omega
        clear hA hB hk hcell hall h0 h1 HIH hk1 hn
        go_enter Tryd.func28, Tryd.ntmps28
        go_wp2_with fail
        refine (HHF.out w).mono ?_
        rintro e w2 ⟨rfl, hw2⟩
        subst hw2
        go_wp2_with fail
        refine Rc.region (w2.heap.size) 9 [Rc.F 3 (fun _ => .string ⟨A.toArray⟩) (fun _ _ _ => True), Rc.F 7 (fun _ => .string ⟨B.toArray⟩) (fun _ _ _ => True), Rc.G 8 [3, 7] (fun _ => .string ⟨(nodeS A B).toArray⟩) (fun _ _ _ => True)] [] (by kernel_rfl) (Nat.le_refl _) (by kernel_rfl) ?_; intro p; simp only [List.take, List.drop]
        iterate 3 (refine Rc.rK rfl rfl ?_; intro K hK; apply Exists.intro; refine ⟨?_, ?_⟩; (focus (intro x hx;  go_simp; (first | (fail) | ((try go_bits); (try go_simp); (try rfl))))); go_simp; refine hK _ ?_; clear hK K)
        refine Rc.fK rfl rfl rfl rfl ?_ ?_
        · intro x Fs hx hle hg K hK
          go_wp2_with fail
          refine (HA.out x (Rc.undrew hx)).mono ?_
          rintro e x' ⟨rfl, hb⟩
          go_wp2_with fail
          exact hK Rc.dflt x' hb (fun _ _ _ _ => trivial)
        intro K hK; go_simp; refine hK _ ?_; clear hK K
        iterate 2 (refine Rc.rK rfl rfl ?_; intro K hK; apply Exists.intro; refine ⟨?_, ?_⟩; (focus (intro x hx;  go_simp; (first | (fail) | ((try go_bits); (try go_simp); (try rfl))))); go_simp; refine hK _ ?_; clear hK K)
        refine Rc.r_cutlo rfl rfl 37 _ _ rfl 9 i0 Tryd.underlying37 hi0 b off n c k 1 hz1 rfl rfl hkn' hnc ?_
        intro K hK; go_simp; refine hK _ ?_; clear hK K
        go_simp
        refine Rc.fK rfl rfl rfl rfl ?_ ?_
        · intro x Fs hx hle hg K hK
          have HBX := Lib.hid (HB.out x (Rc.undrew hx))
          go_wp2_with fail
          refine HBX.out.mono ?_
          rintro e x' ⟨rfl, hb⟩
          go_wp2_with fail
          exact hK Rc.dflt x' hb (fun _ _ _ _ => trivial)
        intro K hK; go_simp; refine hK _ ?_; clear hK K
        refine Rc.fK rfl rfl rfl rfl ?_ ?_
        · intro x Fs hx hle hg K hK
          go_wp2_with fail
          refine (refnode_any A B x (HR.out.below (Rc.undrew hx)) (by rw [HAL.out]; decide) (by rw [HBL.out]; decide)).mono ?_
          rintro e x' ⟨rfl, hb⟩
          go_wp2_with fail
          exact hK Rc.dflt x' hb (fun _ _ _ _ => trivial)
        intro K hK; go_simp; refine hK _ ?_; clear hK K
        refine Rc.done fun x Fs hx hle hg => ?_
        have HX := Lib.hid (Rc.undrew hx)
        clear hx hle hg
        go_wp2_with fail
        refine NoPanic.normal ?_
        go_wp2_with fail
        go_ret
        exact ⟨by rw [HTR.out]; rfl, HX.out⟩
end Ref
end Go.Proofs.YtkembhonfehlbaaDoor

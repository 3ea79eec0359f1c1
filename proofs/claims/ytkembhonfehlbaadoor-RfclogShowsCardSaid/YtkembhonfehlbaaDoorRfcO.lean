/- The walks of the document's Path, Sub, Consistency and Same of layer 16. -/
import Derived.Test.YtkembhonfehlbaaDoorRfcW
namespace Go.Proofs.YtkembhonfehlbaaDoor
open Go.RowKit Bits Mem Sha
namespace Ref
abbrev pathS (l : List (List UInt8)) (i : Nat) : List (List UInt8) := Rfc.path nodeS (sha []) l i
abbrev subR (l : List (List UInt8)) (m : Nat) (f : Bool) : List (List UInt8) := Rfc.sub nodeS (sha []) l m f
theorem pathS_len (n : Nat) : ∀ (l : List (List UInt8)) (i : Nat), l.length = n → (pathS l i).length ≤ n := by
  induction n using Nat.strongRecOn with
  | _ n ih =>
    intro l i hl
    by_cases h : 2 ≤ l.length
    · have h1 := Rfc.hf_lt l.length h
      have h2 := Rfc.hf_pos l.length
      by_cases hi : i < Rfc.hf l.length
      · have := ih (Rfc.hf l.length) (by omega) (l.take (Rfc.hf l.length)) i (by rw [List.length_take]; omega)
        unfold pathS at this ⊢
        rw [Rfc.path_left _ _ l i h hi, List.length_append]
        simp; omega
      · have := ih (l.length - Rfc.hf l.length) (by omega) (l.drop (Rfc.hf l.length)) (i - Rfc.hf l.length) (by rw [List.length_drop])
        unfold pathS at this ⊢
        rw [Rfc.path_right _ _ l i h hi, List.length_append]
        simp; omega
    · unfold pathS
      rw [Rfc.path_one _ _ l i h]
      exact Nat.zero_le _
theorem subR_len (n : Nat) : ∀ (l : List (List UInt8)) (m : Nat) (f : Bool), l.length = n → (subR l m f).length ≤ n + 1 := by
  induction n using Nat.strongRecOn with
  | _ n ih =>
    intro l m f hl
    unfold subR
    rw [Rfc.sub]
    split
    · rename_i h
      have h1 := Rfc.hf_lt l.length (by omega)
      have h2 := Rfc.hf_pos l.length
      split
      · have := ih (Rfc.hf l.length) (by omega) (l.take (Rfc.hf l.length)) m f (by rw [List.length_take]; omega)
        unfold subR at this
        rw [List.length_append]; simp; omega
      · have := ih (l.length - Rfc.hf l.length) (by omega) (l.drop (Rfc.hf l.length)) (m - Rfc.hf l.length) false (by rw [List.length_drop])
        unfold subR at this
        rw [List.length_append]; simp; omega
    · cases f <;> simp
theorem strs_drop (T : List (List UInt8)) (k : Nat) : strs (T.drop k) = (strs T).drop k := by simp [strs, List.map_drop]
theorem strs_tk (T : List (List UInt8)) (k : Nat) : strs (T.take k) = (strs T).take k := by simp [strs, List.map_take]
section
variable (n k : Nat) (b off c : Nat) (T : List (List UInt8)) (w : World)
theorem sums_hold (hn : T.length = n) (hk0 : 0 < k) (hk1 : k < n) (hn1 : n ≤ 1000) (hT : ∀ x ∈ T, x.length ≤ 1000000) (hR : Ref.Tabs w) (hrd : Rd w 1 (.slice (some ⟨b, off, none⟩) n c) n (strs T)) :
    (∀ x : World, Below w.heap.size w x → Calls Tryd.prog 28 #[.slice (some ⟨b, off, none⟩) k c] x fun e w' => e = .returned (.string ⟨(treeS ((T.take k).map leafS)).toArray⟩) ∧ Below x.heap.size x w') ∧
    (∀ x : World, Below w.heap.size w x → Calls Tryd.prog 28 #[.slice (some ⟨b, off + k, none⟩) (n - k) (c - k)] x fun e w' => e = .returned (.string ⟨(treeS ((T.drop k).map leafS)).toArray⟩) ∧ Below x.heap.size x w') := by
  refine ⟨fun x hx => ?_, fun x hx => ?_⟩
  · have hl : (T.take k).length = k := by rw [List.length_take]; omega
    have := refsum_any k (T.take k) (some ⟨b, off, none⟩) c x hl (by omega) (fun y hy => hT y (List.mem_of_mem_take hy)) (hR.below hx) (by
      have := Rd_take1 (hrd.below hx) (Nat.le_of_lt hk1)
      rw [hl, strs_tk]
      exact this)
    rw [hl] at this
    exact this
  · have hl : (T.drop k).length = n - k := by rw [List.length_drop]; omega
    have := refsum_any (n - k) (T.drop k) (some ⟨b, off + k, none⟩) (c - k) x hl (by omega) (fun y hy => hT y (List.mem_of_mem_drop hy)) (hR.below hx) (by
      have := Rd_drop1 (hrd.below hx) (Nat.le_of_lt hk1)
      rw [hl, strs_drop]
      exact this)
    rw [hl] at this
    exact this
end
set_option maxRecDepth 100000 in
set_option maxHeartbeats 4000000 in
theorem refpath_any (n : Nat) : ∀ (T : List (List UInt8)) (q : Option Addr) (c : Nat) (i : Nat) (w : World), T.length = n → i < n → n ≤ 1000 → (∀ x ∈ T, x.length ≤ 1000000) → Ref.Tabs w → Rd w 1 (.slice q T.length c) T.length (strs T) →
    Calls Tryd.prog 42 #[.slice q T.length c, .int .i64 i] w fun e w' => ∃ q' c', e = .returned (.slice q' (pathS (T.map leafS) i).length c') ∧ Ow w' w.heap.size 9 1 (.slice q' (pathS (T.map leafS) i).length c') (pathS (T.map leafS) i).length (strs (pathS (T.map leafS) i)) ∧ Below w.heap.size w w' := by
  induction n using Nat.strongRecOn with
  | _ n ih =>
    intro T q c i w hn hin hn1 hT hR hrd
    have HIH := Lib.hid ih
    have HR := Lib.hid hR
    have HT := Lib.hid hT
    have HRD := Lib.hid hrd
    clear ih hR hT hrd
    by_cases h1 : n = 1
    · rw [hn]
      subst h1
      have HPE : Hid (pathS (T.map leafS) i = []) := Lib.hid (Rfc.path_one _ _ _ _ (by rw [List.length_map]; omega))
      clear hn hin
      go_enter Tryd.func42, Tryd.ntmps42
      go_wp2_with fail
      go_ret
      exact ⟨some ⟨w.heap.size, 0, none⟩, 0, by rw [HPE.out]; rfl, by rw [HPE.out]; exact Ow.lit w #[] 9 1 0 w.heap.size (Nat.le_refl _) (Nat.zero_le _) rfl, (Below.refl _ _).alloc (Nat.le_refl _) _⟩
    · have h2 : 2 ≤ n := by omega
      obtain ⟨b, off, hqe, hb, hnc, hcm, hcell⟩ := Rd_lt HRD.out (by omega)
      subst hqe
      rw [hn] at HRD hnc ⊢
      have hk1 := Rfc.hf_lt n h2
      have hk0 := Rfc.hf_pos n
      have hml : (T.map leafS).length = n := by rw [List.length_map, hn]
      have hstl := Rfc.path_left nodeS (sha []) (T.map leafS) i (by omega)
      have hstr := Rfc.path_right nodeS (sha []) (T.map leafS) i (by omega)
      rw [hml] at hstl hstr
      have HHF := Lib.hid (refhalf_any n · h2 (by omega))
      obtain ⟨P, hP⟩ : ∃ P, P = pathS (T.map leafS) i := ⟨_, rfl⟩
      obtain ⟨k, hk⟩ : ∃ k, k = Rfc.hf n := ⟨_, rfl⟩
      rw [← hk] at hk1 hk0 HHF hstl hstr
      rw [← List.map_take, ← List.map_drop] at hstl hstr
      have hsums := sums_hold n k b off c T w hn hk0 hk1 hn1 HT.out HR.out HRD.out
      have HSU := Lib.hid hsums
      have HREC : Hid (∀ (U : List (List UInt8)) (o' m c' j : Nat), U.length = m → m < n → j < m → (∀ x ∈ U, x ∈ T) → Rd w 1 (.slice (some ⟨b, o', none⟩) m c') m (strs U) → ∀ x : World, Below w.heap.size w x → Calls Tryd.prog 42 #[.slice (some ⟨b, o', none⟩) m c', .int .i64 j] x fun e w' => ∃ q' c', e = .returned (.slice q' (pathS (U.map leafS) j).length c') ∧ Ow w' x.heap.size 9 1 (.slice q' (pathS (U.map leafS) j).length c') (pathS (U.map leafS) j).length (strs (pathS (U.map leafS) j)) ∧ Below x.heap.size x w') := Lib.hid (fun U o' m c' j hU hm hj hsub hrd x hx => by
        have := HIH.out m hm U (some ⟨b, o', none⟩) c' j x hU hj (by omega) (fun y hy => HT.out y (hsub y hy)) (HR.out.below hx) (by rw [hU]; exact hrd.below hx)
        rw [hU] at this
        exact this)
      have hkI : (k : Int) ≤ (c : Int) := by omega
      have hkn : (k : Int) ≤ (n : Int) := by omega
      have hkn' : k < n := hk1
      obtain ⟨i0, hi0, hz0, hz1, hz2⟩ := parts3 infoStr16
      have hE1 : ((n : Int) == 1) = false := by rw [beq_eq_false_iff_ne]; omega
      have htl : (T.take k).length = k := by rw [List.length_take]; omega
      have hdl : (T.drop k).length = n - k := by rw [List.length_drop]; omega
      rw [← hP]
      by_cases hik : i < k
      · have hikI : (i : Int) < (k : Int) := by omega
        obtain ⟨PA, hPA⟩ : ∃ PA, PA = pathS ((T.take k).map leafS) i := ⟨_, rfl⟩
        obtain ⟨LP, hLP⟩ : ∃ LP, LP = PA.length := ⟨_, rfl⟩
        have hLP1 : LP ≤ 1000 := by rw [hLP, hPA]; have := pathS_len k ((T.take k).map leafS) i (by rw [List.length_map, htl]); omega
        have HA := Lib.hid (HREC.out (T.take k) off k c i htl hk1 hik (fun y hy => List.mem_of_mem_take hy) (by rw [strs_tk]; exact Rd_take1 HRD.out (by omega)))
        rw [← hPA, ← hLP] at HA
        have HB := Lib.hid HSU.out.2
        obtain ⟨S, hS⟩ : ∃ S, S = treeS ((T.drop k).map leafS) := ⟨_, rfl⟩
        rw [← hS] at HB
        have HPT : Hid (P = PA ++ [S]) := Lib.hid (by rw [hP, hPA, hS]; exact hstl hik)
        have HPTL : Hid (P.length = LP + 1) := Lib.hid (by rw [HPT.out, List.length_append, hLP]; rfl)
        clear hstl hstr hP hPA hLP hS hk hcell hml hsums htl hdl hik HIH hn
        go_enter Tryd.func42, Tryd.ntmps42
        go_wp2_with fail
        refine (HHF.out w).mono ?_
        rintro e w2 ⟨rfl, hw2⟩
        subst hw2
        go_wp2_with fail
        refine Rc.region (w2.heap.size) 11 [Rc.F 4 (fun p => .slice p.q LP p.c) (fun p F y => OwF F y w2.heap.size 9 1 (.slice p.q LP p.c) LP (strs PA)), Rc.F 8 (fun _ => .string ⟨S.toArray⟩) (fun _ _ _ => True), Rc.F 9 (fun p => .slice p.q 1 1) (fun p _ y => Rd y 1 (.slice p.q 1 1) 1 (strs [S])), Rc.C 10 [4, 9] [4] (fun p => .slice p.q (LP + 1) p.c) (fun p F y => OwF F y w2.heap.size 9 1 (.slice p.q (LP + 1) p.c) (LP + 1) (strs (PA ++ [S])))] [10] (by kernel_rfl) (Nat.le_refl _) (by kernel_rfl) ?_; intro p; simp only [List.take, List.drop]
        iterate 4 (refine Rc.rK rfl rfl ?_; intro K hK; apply Exists.intro; refine ⟨?_, ?_⟩; (focus (intro x hx;  go_simp; (first | (fail) | ((try go_bits); (try go_simp); (try rfl))))); go_simp; refine hK _ ?_; clear hK K)
        refine Rc.fK rfl rfl rfl rfl ?_ ?_
        · intro x Fs hx hle hg K hK
          have HAX := Lib.hid (HA.out x (Rc.undrew hx))
          go_wp2_with fail
          refine HAX.out.mono ?_
          rintro e x' ⟨q', c', rfl, how, hb⟩
          go_wp2_with fail
          exact hK ⟨q', c', undef⟩ x' hb (fun F y hF hy => OwF.fresh how hle hF hy)
        intro K hK; go_simp; refine hK _ ?_; clear hK K
        iterate 2 (refine Rc.rK rfl rfl ?_; intro K hK; apply Exists.intro; refine ⟨?_, ?_⟩; (focus (intro x hx;  go_simp; (first | (fail) | ((try go_bits); (try go_simp); (try rfl))))); go_simp; refine hK _ ?_; clear hK K)
        refine Rc.r_cutlo rfl rfl 37 _ _ rfl 9 i0 Tryd.underlying37 hi0 b off n c k 1 hz1 rfl rfl hkn' hnc ?_
        intro K hK; go_simp; refine hK _ ?_; clear hK K
        go_simp
        refine Rc.fK rfl rfl rfl rfl ?_ ?_
        · intro x Fs hx hle hg K hK
          have HBX := Lib.hid (HB.out x (Rc.undrew hx))
          go_wp2_with fail
          refine HBX.out.mono ?_
          rintro e x' ⟨rfl, hb⟩
          go_wp2_with fail
          exact hK Rc.dflt x' hb (fun _ _ _ _ => trivial)
        intro K hK; go_simp; refine hK _ ?_; clear hK K
        refine Rc.fK rfl rfl rfl rfl ?_ ?_
        · intro x Fs hx hle hg K hK
          have hlit := Rd_lit x #[.string ⟨S.toArray⟩] 9 1 1 rfl (by decide)
          go_wp2_with fail
          exact hK ⟨some ⟨x.heap.size, 0, none⟩, 1, undef⟩ _ ((Below.refl _ _).alloc (Nat.le_refl _) _) fun F y hF hy => hlit.keeps hy (fun k hk => .inr (by cases hk; exact hF _ (Nat.le_refl _) (by simp)))
        intro K hK; go_simp; refine hK _ ?_; clear hK K
        refine Rc.cK rfl rfl rfl ?_ ?_
        · intro x Fs hx hle hg K hK
          have HO : Hid (OwF (Fs 4) x w2.heap.size 9 1 (.slice (p 4).q LP (p 4).c) LP (strs PA)) := Lib.hid hg.1
          have HO2 : Hid (Rd x 1 (.slice (p 9).q 1 1) 1 (strs [S])) := Lib.hid hg.2.1
          clear hg
          refine app_ow3 rfl _ _ 37 37 rfl w2.heap.size 9 i0 (.string ⟨#[]⟩) 1 16 Tryd.underlying37 hi0 hz0 hz1 hz2 (by rfl) _ LP _ rfl HO.out.1 1 _ rfl (Rd.src Tryd.underlying37 HO2.out (strs_one [S])) (by unfold maxLen; omega) (by omega) hle ?_
          intro v' x' how hg' hor
          obtain ⟨q', c', rfl⟩ := Ow_form how
          rw [← strs_append] at how
          go_wp2_with fail
          exact hK ⟨q', c', undef⟩ x' (HO.out.eff (by simp [Rc.C]) hg') (fun y hy => HO.out.next (by simp [Rc.C]) how hor hy)
        intro K hK; go_simp; refine hK _ ?_; clear hK K
        refine Rc.done fun x Fs hx hle hg => ?_
        have HX := Lib.hid (Rc.undrew hx)
        have hfin : Ow x w2.heap.size 9 1 (.slice (p 10).q (LP + 1) (p 10).c) (LP + 1) (strs (PA ++ [S])) := hg.1.1
        obtain ⟨qa, hqa⟩ : ∃ qa, qa = (p 10).q := ⟨_, rfl⟩
        obtain ⟨ca, hca⟩ : ∃ ca, ca = (p 10).c := ⟨_, rfl⟩
        rw [← hqa, ← hca] at hfin ⊢
        have HFIN := Lib.hid hfin
        clear hx hle hg hfin hqa hca
        go_wp2_with fail
        refine NoPanic.normal ?_
        go_wp2_with fail
        go_ret
        exact ⟨qa, ca, by rw [HPTL.out]; rfl, by rw [HPTL.out, HPT.out]; exact HFIN.out, HX.out⟩
      · have hikI : ¬ (i : Int) < (k : Int) := by omega
        have hji : (i : Int) - (k : Int) = ((i - k : Nat) : Int) := by omega
        obtain ⟨PA, hPA⟩ : ∃ PA, PA = pathS ((T.drop k).map leafS) (i - k) := ⟨_, rfl⟩
        obtain ⟨LP, hLP⟩ : ∃ LP, LP = PA.length := ⟨_, rfl⟩
        have hLP1 : LP ≤ 1000 := by rw [hLP, hPA]; have := pathS_len (n - k) ((T.drop k).map leafS) (i - k) (by rw [List.length_map, hdl]); omega
        have HA := Lib.hid (HREC.out (T.drop k) (off + k) (n - k) (c - k) (i - k) hdl (by omega) (by omega) (fun y hy => List.mem_of_mem_drop hy) (by rw [strs_drop]; exact Rd_drop1 HRD.out (by omega)))
        rw [← hPA, ← hLP, ← hji] at HA
        have HB := Lib.hid HSU.out.1
        obtain ⟨S, hS⟩ : ∃ S, S = treeS ((T.take k).map leafS) := ⟨_, rfl⟩
        rw [← hS] at HB
        have HPT : Hid (P = PA ++ [S]) := Lib.hid (by rw [hP, hPA, hS]; exact hstr hik)
        have HPTL : Hid (P.length = LP + 1) := Lib.hid (by rw [HPT.out, List.length_append, hLP]; rfl)
        clear hstl hstr hP hPA hLP hS hk hcell hml hsums htl hdl hik HIH hn hji
        go_enter Tryd.func42, Tryd.ntmps42
        go_wp2_with fail
        refine (HHF.out w).mono ?_
        rintro e w2 ⟨rfl, hw2⟩
        subst hw2
        go_wp2_with fail
        refine Rc.region (w2.heap.size) 13 [Rc.F 6 (fun p => .slice p.q LP p.c) (fun p F y => OwF F y w2.heap.size 9 1 (.slice p.q LP p.c) LP (strs PA)), Rc.F 10 (fun _ => .string ⟨S.toArray⟩) (fun _ _ _ => True), Rc.F 11 (fun p => .slice p.q 1 1) (fun p _ y => Rd y 1 (.slice p.q 1 1) 1 (strs [S])), Rc.C 12 [6, 11] [6] (fun p => .slice p.q (LP + 1) p.c) (fun p F y => OwF F y w2.heap.size 9 1 (.slice p.q (LP + 1) p.c) (LP + 1) (strs (PA ++ [S])))] [12] (by kernel_rfl) (Nat.le_refl _) (by kernel_rfl) ?_; intro p; simp only [List.take, List.drop]
        iterate 2 (refine Rc.rK rfl rfl ?_; intro K hK; apply Exists.intro; refine ⟨?_, ?_⟩; (focus (intro x hx;  go_simp; (first | (fail) | ((try go_bits); (try go_simp); (try rfl))))); go_simp; refine hK _ ?_; clear hK K)
        refine Rc.r_cutlo rfl rfl 37 _ _ rfl 9 i0 Tryd.underlying37 hi0 b off n c k 1 hz1 rfl rfl hkn' hnc ?_
        intro K hK; go_simp; refine hK _ ?_; clear hK K
        go_simp
        iterate 3 (refine Rc.rK rfl rfl ?_; intro K hK; apply Exists.intro; refine ⟨?_, ?_⟩; (focus (intro x hx;  go_simp; (first | (fail) | ((try go_bits); (try go_simp); (try rfl))))); go_simp; refine hK _ ?_; clear hK K)
        refine Rc.fK rfl rfl rfl rfl ?_ ?_
        · intro x Fs hx hle hg K hK
          have HAX := Lib.hid (HA.out x (Rc.undrew hx))
          go_wp2_with fail
          refine HAX.out.mono ?_
          rintro e x' ⟨q', c', rfl, how, hb⟩
          go_wp2_with fail
          exact hK ⟨q', c', undef⟩ x' hb (fun F y hF hy => OwF.fresh how hle hF hy)
        intro K hK; go_simp; refine hK _ ?_; clear hK K
        iterate 3 (refine Rc.rK rfl rfl ?_; intro K hK; apply Exists.intro; refine ⟨?_, ?_⟩; (focus (intro x hx;  go_simp; (first | (fail) | ((try go_bits); (try go_simp); (try rfl))))); go_simp; refine hK _ ?_; clear hK K)
        refine Rc.fK rfl rfl rfl rfl ?_ ?_
        · intro x Fs hx hle hg K hK
          have HBX := Lib.hid (HB.out x (Rc.undrew hx))
          go_wp2_with fail
          refine HBX.out.mono ?_
          rintro e x' ⟨rfl, hb⟩
          go_wp2_with fail
          exact hK Rc.dflt x' hb (fun _ _ _ _ => trivial)
        intro K hK; go_simp; refine hK _ ?_; clear hK K
        refine Rc.fK rfl rfl rfl rfl ?_ ?_
        · intro x Fs hx hle hg K hK
          have hlit := Rd_lit x #[.string ⟨S.toArray⟩] 9 1 1 rfl (by decide)
          go_wp2_with fail
          exact hK ⟨some ⟨x.heap.size, 0, none⟩, 1, undef⟩ _ ((Below.refl _ _).alloc (Nat.le_refl _) _) fun F y hF hy => hlit.keeps hy (fun k hk => .inr (by cases hk; exact hF _ (Nat.le_refl _) (by simp)))
        intro K hK; go_simp; refine hK _ ?_; clear hK K
        refine Rc.cK rfl rfl rfl ?_ ?_
        · intro x Fs hx hle hg K hK
          have HO : Hid (OwF (Fs 6) x w2.heap.size 9 1 (.slice (p 6).q LP (p 6).c) LP (strs PA)) := Lib.hid hg.1
          have HO2 : Hid (Rd x 1 (.slice (p 11).q 1 1) 1 (strs [S])) := Lib.hid hg.2.1
          clear hg
          refine app_ow3 rfl _ _ 37 37 rfl w2.heap.size 9 i0 (.string ⟨#[]⟩) 1 16 Tryd.underlying37 hi0 hz0 hz1 hz2 (by rfl) _ LP _ rfl HO.out.1 1 _ rfl (Rd.src Tryd.underlying37 HO2.out (strs_one [S])) (by unfold maxLen; omega) (by omega) hle ?_
          intro v' x' how hg' hor
          obtain ⟨q', c', rfl⟩ := Ow_form how
          rw [← strs_append] at how
          go_wp2_with fail
          exact hK ⟨q', c', undef⟩ x' (HO.out.eff (by simp [Rc.C]) hg') (fun y hy => HO.out.next (by simp [Rc.C]) how hor hy)
        intro K hK; go_simp; refine hK _ ?_; clear hK K
        refine Rc.done fun x Fs hx hle hg => ?_
        have HX := Lib.hid (Rc.undrew hx)
        have hfin : Ow x w2.heap.size 9 1 (.slice (p 12).q (LP + 1) (p 12).c) (LP + 1) (strs (PA ++ [S])) := hg.1.1
        obtain ⟨qa, hqa⟩ : ∃ qa, qa = (p 12).q := ⟨_, rfl⟩
        obtain ⟨ca, hca⟩ : ∃ ca, ca = (p 12).c := ⟨_, rfl⟩
        rw [← hqa, ← hca] at hfin ⊢
        have HFIN := Lib.hid hfin
        clear hx hle hg hfin hqa hca
        go_wp2_with fail
        refine NoPanic.normal ?_
        go_wp2_with fail
        go_ret
        exact ⟨qa, ca, by rw [HPTL.out]; rfl, by rw [HPTL.out, HPT.out]; exact HFIN.out, HX.out⟩
set_option maxRecDepth 100000 in
set_option maxHeartbeats 4000000 in
theorem refsub_any (n : Nat) : ∀ (T : List (List UInt8)) (q : Option Addr) (c : Nat) (i : Nat) (f : Bool) (w : World), T.length = n → 1 ≤ i → i ≤ n → n ≤ 1000 → (∀ x ∈ T, x.length ≤ 1000000) → Ref.Tabs w → Rd w 1 (.slice q T.length c) T.length (strs T) →
    Calls Tryd.prog 70 #[.slice q T.length c, .int .i64 i, .bool f] w fun e w' => ∃ q' c', e = .returned (.slice q' (subR (T.map leafS) i f).length c') ∧ Ow w' w.heap.size 9 1 (.slice q' (subR (T.map leafS) i f).length c') (subR (T.map leafS) i f).length (strs (subR (T.map leafS) i f)) ∧ Below w.heap.size w w' := by
  induction n using Nat.strongRecOn with
  | _ n ih =>
    intro T q c i f w hn hi1 hin hn1 hT hR hrd
    have HIH := Lib.hid ih
    have HR := Lib.hid hR
    have HT := Lib.hid hT
    have HRD := Lib.hid hrd
    clear ih hR hT hrd
    have hml : (T.map leafS).length = n := by rw [List.length_map, hn]
    by_cases h1 : i = n
    · have hend : subR (T.map leafS) i f = bif f then [] else [treeS (T.map leafS)] := by
        unfold subR
        rw [Rfc.sub, dif_neg (by omega)]
        rfl
      cases f with
      | true =>
        have HPE : Hid (subR (T.map leafS) i true = []) := Lib.hid hend
        rw [hn, h1]
        rw [h1] at HPE
        clear hn hin hend hml h1
        go_enter Tryd.func70, Tryd.ntmps70
        go_wp2_with fail
        go_ret
        exact ⟨some ⟨w.heap.size, 0, none⟩, 0, by rw [HPE.out]; rfl, by rw [HPE.out]; exact Ow.lit w #[] 9 1 0 w.heap.size (Nat.le_refl _) (Nat.zero_le _) rfl, (Below.refl _ _).alloc (Nat.le_refl _) _⟩
      | false =>
        obtain ⟨S, hS⟩ : ∃ S, S = treeS (T.map leafS) := ⟨_, rfl⟩
        have HPE : Hid (subR (T.map leafS) i false = [S]) := Lib.hid (by rw [hend, hS]; rfl)
        have hsum := refsum_any n T q c w hn hn1 HT.out HR.out HRD.out
        rw [← hS] at hsum
        rw [hn, h1]
        rw [h1] at HPE
        rw [hn] at hsum
        have HSM := Lib.hid hsum
        clear hn hin hend hml h1 hS hsum
        go_enter Tryd.func70, Tryd.ntmps70
        go_wp2_with fail
        refine HSM.out.mono ?_
        rintro e w2 ⟨rfl, hb2⟩
        have HB2 := Lib.hid hb2
        clear hb2
        go_wp2_with fail
        go_ret
        have hlit := Ow.lit w2 #[.string ⟨S.toArray⟩] 9 1 1 w.heap.size HB2.out.size (by decide) rfl
        exact ⟨some ⟨w2.heap.size, 0, none⟩, 1, by rw [HPE.out]; rfl, by rw [HPE.out]; exact hlit, HB2.out.alloc HB2.out.size _⟩
    · have h2 : 2 ≤ n := by omega
      have hlt : i < n := by omega
      obtain ⟨b, off, hqe, hb, hnc, hcm, hcell⟩ := Rd_lt HRD.out (by omega)
      subst hqe
      rw [hn] at HRD hnc ⊢
      have hk1 := Rfc.hf_lt n h2
      have hk0 := Rfc.hf_pos n
      have hst : subR (T.map leafS) i f = if i ≤ Rfc.hf n then subR ((T.map leafS).take (Rfc.hf n)) i f ++ [treeS ((T.map leafS).drop (Rfc.hf n))] else subR ((T.map leafS).drop (Rfc.hf n)) (i - Rfc.hf n) false ++ [treeS ((T.map leafS).take (Rfc.hf n))] := by
        unfold subR
        rw [Rfc.sub, dif_pos ⟨by omega, hi1⟩, hml]
        rfl
      have HHF := Lib.hid (refhalf_any n · h2 (by omega))
      obtain ⟨P, hP⟩ : ∃ P, P = subR (T.map leafS) i f := ⟨_, rfl⟩
      obtain ⟨k, hk⟩ : ∃ k, k = Rfc.hf n := ⟨_, rfl⟩
      rw [← hk] at hk1 hk0 HHF hst
      rw [← List.map_take, ← List.map_drop] at hst
      have hsums := sums_hold n k b off c T w hn hk0 hk1 hn1 HT.out HR.out HRD.out
      have HSU := Lib.hid hsums
      have HREC : Hid (∀ (U : List (List UInt8)) (o' m c' j : Nat) (g : Bool), U.length = m → m < n → 1 ≤ j → j ≤ m → (∀ x ∈ U, x ∈ T) → Rd w 1 (.slice (some ⟨b, o', none⟩) m c') m (strs U) → ∀ x : World, Below w.heap.size w x → Calls Tryd.prog 70 #[.slice (some ⟨b, o', none⟩) m c', .int .i64 j, .bool g] x fun e w' => ∃ q' c', e = .returned (.slice q' (subR (U.map leafS) j g).length c') ∧ Ow w' x.heap.size 9 1 (.slice q' (subR (U.map leafS) j g).length c') (subR (U.map leafS) j g).length (strs (subR (U.map leafS) j g)) ∧ Below x.heap.size x w') := Lib.hid (fun U o' m c' j g hU hm hj hjm hsub hrd x hx => by
        have := HIH.out m hm U (some ⟨b, o', none⟩) c' j g x hU hj hjm (by omega) (fun y hy => HT.out y (hsub y hy)) (HR.out.below hx) (by rw [hU]; exact hrd.below hx)
        rw [hU] at this
        exact this)
      have hkI : (k : Int) ≤ (c : Int) := by omega
      have hkn : (k : Int) ≤ (n : Int) := by omega
      have hkn' : k < n := hk1
      obtain ⟨i0, hi0, hz0, hz1, hz2⟩ := parts3 infoStr16
      have hE1 : ((i : Int) == (n : Int)) = false := by rw [beq_eq_false_iff_ne]; omega
      have htl : (T.take k).length = k := by rw [List.length_take]; omega
      have hdl : (T.drop k).length = n - k := by rw [List.length_drop]; omega
      rw [← hP]
      by_cases hik : i ≤ k
      · have hikI : (i : Int) ≤ (k : Int) := by omega
        rw [if_pos hik] at hst
        obtain ⟨PA, hPA⟩ : ∃ PA, PA = subR ((T.take k).map leafS) i f := ⟨_, rfl⟩
        obtain ⟨LP, hLP⟩ : ∃ LP, LP = PA.length := ⟨_, rfl⟩
        have hLP1 : LP ≤ 1001 := by rw [hLP, hPA]; have := subR_len k ((T.take k).map leafS) i f (by rw [List.length_map, htl]); omega
        have HA := Lib.hid (HREC.out (T.take k) off k c i f htl hk1 hi1 hik (fun y hy => List.mem_of_mem_take hy) (by rw [strs_tk]; exact Rd_take1 HRD.out (by omega)))
        rw [← hPA, ← hLP] at HA
        have HB := Lib.hid HSU.out.2
        obtain ⟨S, hS⟩ : ∃ S, S = treeS ((T.drop k).map leafS) := ⟨_, rfl⟩
        rw [← hS] at HB
        have HPT : Hid (P = PA ++ [S]) := Lib.hid (by rw [hP, hPA, hS]; exact hst)
        have HPTL : Hid (P.length = LP + 1) := Lib.hid (by rw [HPT.out, List.length_append, hLP]; rfl)
        clear hst hP hPA hLP hS hk hcell hml hsums htl hdl hik HIH hn h1 hlt
        go_enter Tryd.func70, Tryd.ntmps70
        go_wp2_with fail
        refine (HHF.out w).mono ?_
        rintro e w2 ⟨rfl, hw2⟩
        subst hw2
        go_wp2_with fail
        refine Rc.region (w2.heap.size) 12 [Rc.F 5 (fun p => .slice p.q LP p.c) (fun p F y => OwF F y w2.heap.size 9 1 (.slice p.q LP p.c) LP (strs PA)), Rc.F 9 (fun _ => .string ⟨S.toArray⟩) (fun _ _ _ => True), Rc.F 10 (fun p => .slice p.q 1 1) (fun p _ y => Rd y 1 (.slice p.q 1 1) 1 (strs [S])), Rc.C 11 [5, 10] [5] (fun p => .slice p.q (LP + 1) p.c) (fun p F y => OwF F y w2.heap.size 9 1 (.slice p.q (LP + 1) p.c) (LP + 1) (strs (PA ++ [S])))] [11] (by kernel_rfl) (Nat.le_refl _) (by kernel_rfl) ?_; intro p; simp only [List.take, List.drop]
        iterate 5 (refine Rc.rK rfl rfl ?_; intro K hK; apply Exists.intro; refine ⟨?_, ?_⟩; (focus (intro x hx;  go_simp; (first | (fail) | ((try go_bits); (try go_simp); (try rfl))))); go_simp; refine hK _ ?_; clear hK K)
        refine Rc.fK rfl rfl rfl rfl ?_ ?_
        · intro x Fs hx hle hg K hK
          have HAX := Lib.hid (HA.out x (Rc.undrew hx))
          go_wp2_with fail
          refine HAX.out.mono ?_
          rintro e x' ⟨q', c', rfl, how, hb⟩
          go_wp2_with fail
          exact hK ⟨q', c', undef⟩ x' hb (fun F y hF hy => OwF.fresh how hle hF hy)
        intro K hK; go_simp; refine hK _ ?_; clear hK K
        iterate 2 (refine Rc.rK rfl rfl ?_; intro K hK; apply Exists.intro; refine ⟨?_, ?_⟩; (focus (intro x hx;  go_simp; (first | (fail) | ((try go_bits); (try go_simp); (try rfl))))); go_simp; refine hK _ ?_; clear hK K)
        refine Rc.r_cutlo rfl rfl 37 _ _ rfl 9 i0 Tryd.underlying37 hi0 b off n c k 1 hz1 rfl rfl hkn' hnc ?_
        intro K hK; go_simp; refine hK _ ?_; clear hK K
        go_simp
        refine Rc.fK rfl rfl rfl rfl ?_ ?_
        · intro x Fs hx hle hg K hK
          have HBX := Lib.hid (HB.out x (Rc.undrew hx))
          go_wp2_with fail
          refine HBX.out.mono ?_
          rintro e x' ⟨rfl, hb⟩
          go_wp2_with fail
          exact hK Rc.dflt x' hb (fun _ _ _ _ => trivial)
        intro K hK; go_simp; refine hK _ ?_; clear hK K
        refine Rc.fK rfl rfl rfl rfl ?_ ?_
        · intro x Fs hx hle hg K hK
          have hlit := Rd_lit x #[.string ⟨S.toArray⟩] 9 1 1 rfl (by decide)
          go_wp2_with fail
          exact hK ⟨some ⟨x.heap.size, 0, none⟩, 1, undef⟩ _ ((Below.refl _ _).alloc (Nat.le_refl _) _) fun F y hF hy => hlit.keeps hy (fun k hk => .inr (by cases hk; exact hF _ (Nat.le_refl _) (by simp)))
        intro K hK; go_simp; refine hK _ ?_; clear hK K
        refine Rc.cK rfl rfl rfl ?_ ?_
        · intro x Fs hx hle hg K hK
          have HO : Hid (OwF (Fs 5) x w2.heap.size 9 1 (.slice (p 5).q LP (p 5).c) LP (strs PA)) := Lib.hid hg.1
          have HO2 : Hid (Rd x 1 (.slice (p 10).q 1 1) 1 (strs [S])) := Lib.hid hg.2.1
          clear hg
          refine app_ow3 rfl _ _ 37 37 rfl w2.heap.size 9 i0 (.string ⟨#[]⟩) 1 16 Tryd.underlying37 hi0 hz0 hz1 hz2 (by rfl) _ LP _ rfl HO.out.1 1 _ rfl (Rd.src Tryd.underlying37 HO2.out (strs_one [S])) (by unfold maxLen; omega) (by omega) hle ?_
          intro v' x' how hg' hor
          obtain ⟨q', c', rfl⟩ := Ow_form how
          rw [← strs_append] at how
          go_wp2_with fail
          exact hK ⟨q', c', undef⟩ x' (HO.out.eff (by simp [Rc.C]) hg') (fun y hy => HO.out.next (by simp [Rc.C]) how hor hy)
        intro K hK; go_simp; refine hK _ ?_; clear hK K
        refine Rc.done fun x Fs hx hle hg => ?_
        have HX := Lib.hid (Rc.undrew hx)
        have hfin : Ow x w2.heap.size 9 1 (.slice (p 11).q (LP + 1) (p 11).c) (LP + 1) (strs (PA ++ [S])) := hg.1.1
        obtain ⟨qa, hqa⟩ : ∃ qa, qa = (p 11).q := ⟨_, rfl⟩
        obtain ⟨ca, hca⟩ : ∃ ca, ca = (p 11).c := ⟨_, rfl⟩
        rw [← hqa, ← hca] at hfin ⊢
        have HFIN := Lib.hid hfin
        clear hx hle hg hfin hqa hca
        go_wp2_with fail
        refine NoPanic.normal ?_
        go_wp2_with fail
        go_ret
        exact ⟨qa, ca, by rw [HPTL.out]; rfl, by rw [HPTL.out, HPT.out]; exact HFIN.out, HX.out⟩
      · have hikI : ¬ (i : Int) ≤ (k : Int) := by omega
        have hji : (i : Int) - (k : Int) = ((i - k : Nat) : Int) := by omega
        rw [if_neg hik] at hst
        obtain ⟨PA, hPA⟩ : ∃ PA, PA = subR ((T.drop k).map leafS) (i - k) false := ⟨_, rfl⟩
        obtain ⟨LP, hLP⟩ : ∃ LP, LP = PA.length := ⟨_, rfl⟩
        have hLP1 : LP ≤ 1001 := by rw [hLP, hPA]; have := subR_len (n - k) ((T.drop k).map leafS) (i - k) false (by rw [List.length_map, hdl]); omega
        have HA := Lib.hid (HREC.out (T.drop k) (off + k) (n - k) (c - k) (i - k) false hdl (by omega) (by omega) (by omega) (fun y hy => List.mem_of_mem_drop hy) (by rw [strs_drop]; exact Rd_drop1 HRD.out (by omega)))
        rw [← hPA, ← hLP, ← hji] at HA
        have HB := Lib.hid HSU.out.1
        obtain ⟨S, hS⟩ : ∃ S, S = treeS ((T.take k).map leafS) := ⟨_, rfl⟩
        rw [← hS] at HB
        have HPT : Hid (P = PA ++ [S]) := Lib.hid (by rw [hP, hPA, hS]; exact hst)
        have HPTL : Hid (P.length = LP + 1) := Lib.hid (by rw [HPT.out, List.length_append, hLP]; rfl)
        clear hst hP hPA hLP hS hk hcell hml hsums htl hdl hik HIH hn h1 hlt hji
        go_enter Tryd.func70, Tryd.ntmps70
        go_wp2_with fail
        refine (HHF.out w).mono ?_
        rintro e w2 ⟨rfl, hw2⟩
        subst hw2
        go_wp2_with fail
        refine Rc.region (w2.heap.size) 13 [Rc.F 6 (fun p => .slice p.q LP p.c) (fun p F y => OwF F y w2.heap.size 9 1 (.slice p.q LP p.c) LP (strs PA)), Rc.F 10 (fun _ => .string ⟨S.toArray⟩) (fun _ _ _ => True), Rc.F 11 (fun p => .slice p.q 1 1) (fun p _ y => Rd y 1 (.slice p.q 1 1) 1 (strs [S])), Rc.C 12 [6, 11] [6] (fun p => .slice p.q (LP + 1) p.c) (fun p F y => OwF F y w2.heap.size 9 1 (.slice p.q (LP + 1) p.c) (LP + 1) (strs (PA ++ [S])))] [12] (by kernel_rfl) (Nat.le_refl _) (by kernel_rfl) ?_; intro p; simp only [List.take, List.drop]
        iterate 2 (refine Rc.rK rfl rfl ?_; intro K hK; apply Exists.intro; refine ⟨?_, ?_⟩; (focus (intro x hx;  go_simp; (first | (fail) | ((try go_bits); (try go_simp); (try rfl))))); go_simp; refine hK _ ?_; clear hK K)
        refine Rc.r_cutlo rfl rfl 37 _ _ rfl 9 i0 Tryd.underlying37 hi0 b off n c k 1 hz1 rfl rfl hkn' hnc ?_
        intro K hK; go_simp; refine hK _ ?_; clear hK K
        go_simp
        iterate 3 (refine Rc.rK rfl rfl ?_; intro K hK; apply Exists.intro; refine ⟨?_, ?_⟩; (focus (intro x hx;  go_simp; (first | (fail) | ((try go_bits); (try go_simp); (try rfl))))); go_simp; refine hK _ ?_; clear hK K)
        refine Rc.fK rfl rfl rfl rfl ?_ ?_
        · intro x Fs hx hle hg K hK
          have HAX := Lib.hid (HA.out x (Rc.undrew hx))
          go_wp2_with fail
          refine HAX.out.mono ?_
          rintro e x' ⟨q', c', rfl, how, hb⟩
          go_wp2_with fail
          exact hK ⟨q', c', undef⟩ x' hb (fun F y hF hy => OwF.fresh how hle hF hy)
        intro K hK; go_simp; refine hK _ ?_; clear hK K
        iterate 3 (refine Rc.rK rfl rfl ?_; intro K hK; apply Exists.intro; refine ⟨?_, ?_⟩; (focus (intro x hx;  go_simp; (first | (fail) | ((try go_bits); (try go_simp); (try rfl))))); go_simp; refine hK _ ?_; clear hK K)
        refine Rc.fK rfl rfl rfl rfl ?_ ?_
        · intro x Fs hx hle hg K hK
          have HBX := Lib.hid (HB.out x (Rc.undrew hx))
          go_wp2_with fail
          refine HBX.out.mono ?_
          rintro e x' ⟨rfl, hb⟩
          go_wp2_with fail
          exact hK Rc.dflt x' hb (fun _ _ _ _ => trivial)
        intro K hK; go_simp; refine hK _ ?_; clear hK K
        refine Rc.fK rfl rfl rfl rfl ?_ ?_
        · intro x Fs hx hle hg K hK
          have hlit := Rd_lit x #[.string ⟨S.toArray⟩] 9 1 1 rfl (by decide)
          go_wp2_with fail
          exact hK ⟨some ⟨x.heap.size, 0, none⟩, 1, undef⟩ _ ((Below.refl _ _).alloc (Nat.le_refl _) _) fun F y hF hy => hlit.keeps hy (fun k hk => .inr (by cases hk; exact hF _ (Nat.le_refl _) (by simp)))
        intro K hK; go_simp; refine hK _ ?_; clear hK K
        refine Rc.cK rfl rfl rfl ?_ ?_
        · intro x Fs hx hle hg K hK
          have HO : Hid (OwF (Fs 6) x w2.heap.size 9 1 (.slice (p 6).q LP (p 6).c) LP (strs PA)) := Lib.hid hg.1
          have HO2 : Hid (Rd x 1 (.slice (p 11).q 1 1) 1 (strs [S])) := Lib.hid hg.2.1
          clear hg
          refine app_ow3 rfl _ _ 37 37 rfl w2.heap.size 9 i0 (.string ⟨#[]⟩) 1 16 Tryd.underlying37 hi0 hz0 hz1 hz2 (by rfl) _ LP _ rfl HO.out.1 1 _ rfl (Rd.src Tryd.underlying37 HO2.out (strs_one [S])) (by unfold maxLen; omega) (by omega) hle ?_
          intro v' x' how hg' hor
          obtain ⟨q', c', rfl⟩ := Ow_form how
          rw [← strs_append] at how
          go_wp2_with fail
          exact hK ⟨q', c', undef⟩ x' (HO.out.eff (by simp [Rc.C]) hg') (fun y hy => HO.out.next (by simp [Rc.C]) how hor hy)
        intro K hK; go_simp; refine hK _ ?_; clear hK K
        refine Rc.done fun x Fs hx hle hg => ?_
        have HX := Lib.hid (Rc.undrew hx)
        have hfin : Ow x w2.heap.size 9 1 (.slice (p 12).q (LP + 1) (p 12).c) (LP + 1) (strs (PA ++ [S])) := hg.1.1
        obtain ⟨qa, hqa⟩ : ∃ qa, qa = (p 12).q := ⟨_, rfl⟩
        obtain ⟨ca, hca⟩ : ∃ ca, ca = (p 12).c := ⟨_, rfl⟩
        rw [← hqa, ← hca] at hfin ⊢
        have HFIN := Lib.hid hfin
        clear hx hle hg hfin hqa hca
        go_wp2_with fail
        refine NoPanic.normal ?_
        go_wp2_with fail
        go_ret
        exact ⟨qa, ca, by rw [HPTL.out]; rfl, by rw [HPTL.out, HPT.out]; exact HFIN.out, HX.out⟩
set_option maxRecDepth 100000 in
set_option maxHeartbeats 4000000 in
theorem refcons_any (T : List (List UInt8)) (q : Option Addr) (c : Nat) (i : Nat) (w : World) (hin : i ≤ T.length) (hn1 : T.length ≤ 1000) (hT : ∀ x ∈ T, x.length ≤ 1000000) (hR : Ref.Tabs w) (hrd : Rd w 1 (.slice q T.length c) T.length (strs T)) :
    Calls Tryd.prog 43 #[.slice q T.length c, .int .i64 i] w fun e w' => ∃ q' c', e = .returned (.slice q' (subR (T.map leafS) i true).length c') ∧ Ow w' w.heap.size 9 1 (.slice q' (subR (T.map leafS) i true).length c') (subR (T.map leafS) i true).length (strs (subR (T.map leafS) i true)) ∧ Below w.heap.size w w' := by
  have HR := Lib.hid hR
  have HT := Lib.hid hT
  have HRD := Lib.hid hrd
  clear hR hT hrd
  by_cases h : 1 ≤ i
  · by_cases h1 : i = T.length
    · have HPE : Hid (subR (T.map leafS) i true = []) := Lib.hid (by
        unfold subR
        rw [Rfc.sub, dif_neg (by rw [List.length_map]; omega)]
        rfl)
      have h0I : ((i : Int) == 0) = false := by rw [beq_eq_false_iff_ne]; omega
      have h1I : ((i : Int) == (T.length : Int)) = true := by rw [beq_iff_eq]; omega
      clear h1
      go_enter Tryd.func43, Tryd.ntmps43
      go_wp2_with fail
      go_ret
      exact ⟨some ⟨w.heap.size, 0, none⟩, 0, by rw [HPE.out]; rfl, by rw [HPE.out]; exact Ow.lit w #[] 9 1 0 w.heap.size (Nat.le_refl _) (Nat.zero_le _) rfl, (Below.refl _ _).alloc (Nat.le_refl _) _⟩
    · have HS := Lib.hid (refsub_any T.length T q c i true w rfl h (by omega) hn1 HT.out HR.out HRD.out)
      have h0I : ((i : Int) == 0) = false := by rw [beq_eq_false_iff_ne]; omega
      have h1I : ((i : Int) == (T.length : Int)) = false := by rw [beq_eq_false_iff_ne]; omega
      obtain ⟨P, hP⟩ : ∃ P, P = subR (T.map leafS) i true := ⟨_, rfl⟩
      rw [← hP] at HS ⊢
      clear hP h1
      go_enter Tryd.func43, Tryd.ntmps43
      go_wp2_with fail
      refine HS.out.mono ?_
      rintro e w2 ⟨q', c', rfl, how, hb⟩
      have HOW := Lib.hid how
      have HB := Lib.hid hb
      clear how hb
      go_wp2_with fail
      go_ret
      exact ⟨q', c', rfl, HOW.out, HB.out⟩
  · obtain rfl : i = 0 := by omega
    have HPE : Hid (subR (T.map leafS) 0 true = []) := Lib.hid (by
      unfold subR
      rw [Rfc.sub, dif_neg (by omega)]
      rfl)
    go_enter Tryd.func43, Tryd.ntmps43
    go_wp2_with fail
    go_ret
    exact ⟨some ⟨w.heap.size, 0, none⟩, 0, by rw [HPE.out]; rfl, by rw [HPE.out]; exact Ow.lit w #[] 9 1 0 w.heap.size (Nat.le_refl _) (Nat.zero_le _) rfl, (Below.refl _ _).alloc (Nat.le_refl _) _⟩
set_option maxRecDepth 100000 in
set_option maxHeartbeats 4000000 in
/-- Same, of two rows that are the same. -/
theorem refsame_any (A : List (List UInt8)) (qa qb : Option Addr) (ca cb : Nat) (w : World) (ha : Rd w 1 (.slice qa A.length ca) A.length (strs A)) (hb : Rd w 1 (.slice qb A.length cb) A.length (strs A)) :
    Calls Tryd.prog 41 #[.slice qa A.length ca, .slice qb A.length cb] w fun e w' => e = .returned (.bool true) ∧ Below w.heap.size w w' := by
  have hca := Rd_cap ha
  have hAl : A.length ≤ 9223372036854775807 := by unfold maxLen at hca; omega
  clear hca
  have HA := Lib.hid ha
  have HB := Lib.hid hb
  clear ha hb
  go_enter Tryd.func41, Tryd.ntmps41
  go_wp2_with fail
  go_loopw [5] (fun i wr => ∃ k : Nat, k ≤ A.length ∧ i = .int .i64 k ∧ Hid (Below w.heap.size w wr)) (fun i _ => A.length - (intOf i).toNat)
  case atStart => exact ⟨0, Nat.zero_le _, rfl, Lib.hid (Below.refl _ _)⟩
  case round =>
    obtain ⟨k, hk, rfl, HW⟩ := hrel
    by_cases hlt : k < A.length
    · have hltI : (k : Int) < A.length := by omega
      obtain ⟨b1, o1, hq1, hb1, _, _, hc1⟩ := Rd_lt (HA.out.below HW.out) (by omega)
      obtain ⟨b2, o2, hq2, hb2, _, _, hc2⟩ := Rd_lt (HB.out.below HW.out) (by omega)
      subst hq1 hq2
      have e1 := hc1 k _ (strs_get hlt)
      have e2 := hc2 k _ (strs_get hlt)
      obtain ⟨X, hX⟩ : ∃ X, X = A.getD k [] := ⟨_, rfl⟩
      rw [← hX] at e1 e2
      clear hc1 hc2 hX
      have hk63 : k < 9223372036854775807 := by omega
      go_wp2_with fail
      refine Rc.region (wr.heap.size) 9 [] [] (by kernel_rfl) (Nat.le_refl _) (by kernel_rfl) ?_; intro p; simp only [List.take, List.drop]
      iterate 9 (refine Rc.rK rfl rfl ?_; intro K hK; apply Exists.intro; refine ⟨?_, ?_⟩; (focus (intro x hx; have d1 := Rc.cell_le hx hb1 e1; have d2 := Rc.cell_le hx hb2 e2; go_simp; (first | (fail) | ((try go_bits); (try go_simp); (try rfl))))); go_simp; refine hK _ ?_; clear hK K)
      refine Rc.done fun x Fs hx hle hg => ?_
      have HX := Lib.hid (HW.out.trans ((Rc.undrew hx).mono HW.out.size))
      clear hx hle hg e1 e2
      go_wp2_with fail
      refine NoPanic.normal ?_
      go_wp2_with fail
      exact ⟨⟨k + 1, by omega, by go_num, HX⟩, by simp [intOf]; omega⟩
    · obtain rfl : k = A.length := by omega
      go_wp2_with fail
      go_ret
      exact ⟨rfl, HW.out⟩
end Ref
end Go.Proofs.YtkembhonfehlbaaDoor

/- The walks of the document's up and CheckInclusion of layer 16. -/
import Derived.Test.YtkembhonfehlbaaDoorRfcW
import Derived.Test.YtkembhonfehlbaaDoorRfcQ
namespace Go.Proofs.YtkembhonfehlbaaDoor
open Go.RowKit Bits Mem Sha
namespace Ref
theorem last_of {T : List (List UInt8)} {t : Nat} (hT : T.length = t + 1) : T.getLast? = some (T.getD t []) ∧ T.dropLast = T.take t := by
  refine ⟨?_, by rw [List.dropLast_eq_take, hT]; rfl⟩
  rw [List.getLast?_eq_getElem?, hT, Nat.add_sub_cancel]
  simp [List.getD, List.getElem?_eq_getElem (show t < T.length by omega)]
theorem up_step (s : List UInt8) (i n : Nat) (T : List (List UInt8)) (t : Nat) (h2 : 2 ≤ n) (hT : T.length = t + 1) :
    Rfc.up nodeS s i n T [] = if i < Rfc.hf n then (nodeS (Rfc.up nodeS s i (Rfc.hf n) (T.take t) []).1 (T.getD t []), (Rfc.up nodeS s i (Rfc.hf n) (T.take t) []).2) else (nodeS (T.getD t []) (Rfc.up nodeS s (i - Rfc.hf n) (n - Rfc.hf n) (T.take t) []).1, (Rfc.up nodeS s (i - Rfc.hf n) (n - Rfc.hf n) (T.take t) []).2) := by
  obtain ⟨h3, h4⟩ := last_of hT
  rw [Rfc.up, dif_pos h2, h3, h4]
theorem up_len (s : List UInt8) (i n : Nat) (T : List (List UInt8)) (hs : s.length ≤ 1000) : (Rfc.up nodeS s i n T []).1.length ≤ 1000 := by
  rw [Rfc.up]
  split
  · split
    · exact Nat.zero_le _
    · split
      · rw [nodeS_length]; decide
      · rw [nodeS_length]; decide
  · exact hs
theorem strs_take (T : List (List UInt8)) (k : Nat) : strs (T.take k) = (strs T).take k := by simp [strs, List.map_take]
set_option maxRecDepth 100000 in
set_option maxHeartbeats 8000000 in
theorem refup_any (n : Nat) : ∀ (s : List UInt8) (i : Nat) (T : List (List UInt8)) (q : Option Addr) (c : Nat) (w : World), i < n → n ≤ 9223372036854775807 → s.length ≤ 1000 → (∀ x ∈ T, x.length ≤ 1000) → Ref.Tabs w → Rd w 1 (.slice q T.length c) T.length (strs T) →
    Calls Tryd.prog 66 #[.string ⟨s.toArray⟩, .int .i64 i, .int .i64 n, .slice q T.length c] w fun e w' => e = .returned (.tuple #[.string ⟨(Rfc.up nodeS s i n T []).1.toArray⟩, .bool (Rfc.up nodeS s i n T []).2]) ∧ Below w.heap.size w w' := by
  induction n using Nat.strongRecOn with
  | _ n ih =>
    intro s i T q c w hin hn hs hT hR hrd
    have HIH := Lib.hid ih
    have HR := Lib.hid hR
    have HT := Lib.hid hT
    have HSL := Lib.hid hs
    have hcap := Rd_cap hrd
    have hTc := hcap.1
    have HRD := Lib.hid hrd
    clear ih hR hT hrd hs hcap
    by_cases h1 : n = 1
    · subst h1
      by_cases h0 : T = []
      · subst h0
        have HU : Hid (Rfc.up nodeS s i 1 [] [] = (s, true)) := Lib.hid (by rw [Rfc.up, dif_neg (by omega)]; rfl)
        go_enter Tryd.func66, Tryd.ntmps66
        go_wp2_with fail
        go_ret2
        exact ⟨by rw [HU.out]; rfl, Below.refl _ _⟩
      · have hl : ((T.length : Int) == 0) = false := by
          rw [beq_eq_false_iff_ne]
          have : T.length ≠ 0 := fun h => h0 (List.eq_nil_of_length_eq_zero h)
          omega
        have HU : Hid (Rfc.up nodeS s i 1 T [] = (s, false)) := Lib.hid (by rw [Rfc.up, dif_neg (by omega)]; simp [h0])
        clear h0
        go_enter Tryd.func66, Tryd.ntmps66
        go_wp2_with fail
        go_ret2
        exact ⟨by rw [HU.out]; rfl, Below.refl _ _⟩
    · have h2 : 2 ≤ n := by omega
      have hnI : ((n : Int) == 1) = false := by rw [beq_eq_false_iff_ne]; omega
      by_cases h0 : T = []
      · subst h0
        have HU : Hid (Rfc.up nodeS s i n [] [] = ([], false)) := Lib.hid (by rw [Rfc.up, dif_pos h2]; rfl)
        go_enter Tryd.func66, Tryd.ntmps66
        go_wp2_with fail
        go_ret2
        exact ⟨by rw [HU.out]; rfl, Below.refl _ _⟩
      · obtain ⟨t, ht⟩ : ∃ t, T.length = t + 1 := ⟨T.length - 1, by have : T.length ≠ 0 := fun h => h0 (List.eq_nil_of_length_eq_zero h); omega⟩
        have HST := Lib.hid (up_step s i n T t h2 ht)
        have hk1 := Rfc.hf_lt n h2
        have hk0 := Rfc.hf_pos n
        have HHF := Lib.hid (refhalf_any n · h2 hn)
        obtain ⟨k, hk⟩ : ∃ k, k = Rfc.hf n := ⟨_, rfl⟩
        rw [← hk] at hk1 hk0 HST HHF
        obtain ⟨X, hX⟩ : ∃ X, X = T.getD t [] := ⟨_, rfl⟩
        have HXL : Hid (X.length ≤ 1000) := Lib.hid (by rw [hX, show T.getD t [] = T[t] by simp [List.getD, show t < T.length by omega]]; exact HT.out _ (List.getElem_mem _))
        obtain ⟨b, o, hqe, hb, hnc, hcm, hcell⟩ := Rd_lt HRD.out (by omega)
        subst hqe
        have cX : w.cell? ⟨b, o + t, none⟩ = some (.string ⟨X.toArray⟩) := by rw [hX]; exact hcell t _ (strs_get (by omega))
        rw [← hX] at HST
        have htl : (T.take t).length = t := by rw [List.length_take]; omega
        have HTK : Hid (Rd w 1 (.slice (some ⟨b, o, none⟩) t c) t (strs (T.take t))) := Lib.hid (by rw [strs_take]; exact Rd_take1 HRD.out (by omega))
        have HREC : Hid (∀ (j m : Nat) (x : World), m < n → j < m → Below w.heap.size w x → Calls Tryd.prog 66 #[.string ⟨s.toArray⟩, .int .i64 j, .int .i64 m, .slice (some ⟨b, o, none⟩) t c] x fun e w' => e = .returned (.tuple #[.string ⟨(Rfc.up nodeS s j m (T.take t) []).1.toArray⟩, .bool (Rfc.up nodeS s j m (T.take t) []).2]) ∧ Below x.heap.size x w') := Lib.hid (fun j m x hm hj hx => by
          have := HIH.out m hm s j (T.take t) (some ⟨b, o, none⟩) c x hj (by omega) HSL.out (fun y hy => HT.out y (List.mem_of_mem_take hy)) (HR.out.below hx) (by rw [htl]; exact HTK.out.below hx)
          rw [htl] at this
          exact this)
        rw [ht] at hTc ⊢
        clear HIH hcell hX hk h0 htl hnc hcm HRD ht h1
        have htI : ((t : Int) + 1 == 0) = false := by rw [beq_eq_false_iff_ne]; omega
        have htc : t ≤ c := by omega
        have htlt : (t : Int) < (t : Int) + 1 := by omega
        have htcI : (t : Int) ≤ (c : Int) := by omega
        have ht63 : (t : Int) + 1 ≤ 9223372036854775807 := by
          have := (Rd_cap HTK.out).2
          unfold maxLen at this
          omega
        go_enter Tryd.func66, Tryd.ntmps66
        go_wp2_with fail
        refine Rc.region (w.heap.size) 10 [Rc.F 1 (fun _ => .int .i64 (k : Nat)) (fun _ _ _ => True)] [] (by kernel_rfl) (Nat.le_refl _) (by kernel_rfl) ?_; intro p; simp only [List.take, List.drop]
        iterate 1 (refine Rc.rK rfl rfl ?_; intro K hK; apply Exists.intro; refine ⟨?_, ?_⟩; (focus (intro x hx;  go_simp; (first | (fail) | ((try go_bits); (try go_simp); (try rfl))))); go_simp; refine hK _ ?_; clear hK K)
        refine Rc.fK rfl rfl rfl rfl ?_ ?_
        · intro x Fs hx hle hg K hK
          go_wp2_with fail
          refine (HHF.out x).mono ?_
          rintro e x' ⟨rfl, hxx⟩
          subst hxx
          go_wp2_with fail
          exact hK Rc.dflt _ (Below.refl _ _) (fun _ _ _ _ => trivial)
        intro K hK; go_simp; refine hK _ ?_; clear hK K
        iterate 5 (refine Rc.rK rfl rfl ?_; intro K hK; apply Exists.intro; refine ⟨?_, ?_⟩; (focus (intro x hx;  go_simp; (first | (fail) | ((try go_bits); (try go_simp); (try rfl))))); go_simp; refine hK _ ?_; clear hK K)
        iterate 1 (refine Rc.rK rfl rfl ?_; intro K hK; apply Exists.intro; refine ⟨?_, ?_⟩; (focus (intro x hx; have cx := Rc.cell_le hx hb cX; go_simp; (first | (fail) | ((try go_bits); (try go_simp); (try rfl))))); go_simp; refine hK _ ?_; clear hK K)
        iterate 2 (refine Rc.rK rfl rfl ?_; intro K hK; apply Exists.intro; refine ⟨?_, ?_⟩; (focus (intro x hx;  go_simp; (first | (fail) | ((try go_bits); (try go_simp); (try rfl))))); go_simp; refine hK _ ?_; clear hK K)
        refine Rc.done fun x Fs hx hle hg => ?_
        have HBX := Lib.hid (Rc.undrew hx)
        clear hx hle hg cX
        go_wp2_with fail
        refine NoPanic.normal ?_
        by_cases hik : i < k
        · have hikI : (i : Int) < (k : Int) := by omega
          rw [if_pos hik] at HST
          have hrec := HREC.out i k x hk1 hik HBX.out
          have hul := up_len s i k (T.take t) HSL.out
          generalize Rfc.up nodeS s i k (T.take t) [] = R at HST hrec hul
          obtain ⟨U, V⟩ := R
          have HUL : Hid (U.length ≤ 1000) := Lib.hid hul
          have HREC2 := Lib.hid hrec
          clear hrec hul hik
          go_wp2_with fail
          refine HREC2.out.mono ?_
          rintro e w3 ⟨rfl, hb3⟩
          have HB3 : Hid (Below w.heap.size w w3) := Lib.hid (HBX.out.trans (hb3.mono HBX.out.size))
          clear hb3
          go_wp2_with fail
          refine (refnode_any U X w3 (HR.out.below HB3.out) (by have := HUL.out; omega) (by have := HXL.out; omega)).mono ?_
          rintro e w4 ⟨rfl, hb4⟩
          have HB4 : Hid (Below w.heap.size w w4) := Lib.hid (HB3.out.trans (hb4.mono HB3.out.size))
          clear hb4
          go_wp2_with fail
          go_ret2
          exact ⟨by rw [HST.out]; rfl, HB4.out⟩
        · have hikI : ¬ (i : Int) < (k : Int) := by omega
          have hji : (i : Int) - (k : Int) = ((i - k : Nat) : Int) := by omega
          have hjn : (n : Int) - (k : Int) = ((n - k : Nat) : Int) := by omega
          rw [if_neg hik] at HST
          have hrec := HREC.out (i - k) (n - k) x (by omega) (by omega) HBX.out
          have hul := up_len s (i - k) (n - k) (T.take t) HSL.out
          generalize Rfc.up nodeS s (i - k) (n - k) (T.take t) [] = R at HST hrec hul
          rw [← hji, ← hjn] at hrec
          obtain ⟨U, V⟩ := R
          have HUL : Hid (U.length ≤ 1000) := Lib.hid hul
          have HREC2 := Lib.hid hrec
          clear hrec hul hik hji hjn
          go_wp2_with fail
          refine HREC2.out.mono ?_
          rintro e w3 ⟨rfl, hb3⟩
          have HB3 : Hid (Below w.heap.size w w3) := Lib.hid (HBX.out.trans (hb3.mono HBX.out.size))
          clear hb3
          go_wp2_with fail
          refine (refnode_any X U w3 (HR.out.below HB3.out) (by have := HXL.out; omega) (by have := HUL.out; omega)).mono ?_
          rintro e w4 ⟨rfl, hb4⟩
          have HB4 : Hid (Below w.heap.size w w4) := Lib.hid (HB3.out.trans (hb4.mono HB3.out.size))
          clear hb4
          go_wp2_with fail
          go_ret2
          exact ⟨by rw [HST.out]; rfl, HB4.out⟩
/-- What the document's CheckInclusion answers. -/
def refchkI (l : List UInt8) (i n : Int) (T : List (List UInt8)) (root : List UInt8) : Int :=
  if n < 1 ∨ i < 0 ∨ n ≤ i then 1 else if (Rfc.up nodeS (leafS l) i.toNat n.toNat T []).2 = true ∧ (Rfc.up nodeS (leafS l) i.toNat n.toNat T []).1 = root then 0 else 17
set_option maxRecDepth 100000 in
set_option maxHeartbeats 8000000 in
theorem refcheckI_any (l : List UInt8) (i n : Int) (T : List (List UInt8)) (q : Option Addr) (c : Nat) (root : List UInt8) (w : World) (hl : l.length ≤ 1000) (hn : n ≤ 9223372036854775807) (hT : ∀ x ∈ T, x.length ≤ 1000) (hR : Ref.Tabs w) (hrd : Rd w 1 (.slice q T.length c) T.length (strs T)) :
    Calls Tryd.prog 37 #[.string ⟨l.toArray⟩, .int .i64 i, .int .i64 n, .slice q T.length c, .string ⟨root.toArray⟩] w fun e w' => e = .returned (.int .i64 (refchkI l i n T root)) ∧ Below w.heap.size w w' := by
  have HR := Lib.hid hR
  have HT := Lib.hid hT
  have HRD := Lib.hid hrd
  clear hR hT hrd
  by_cases h1 : n < 1
  ·
    have HE : Hid (refchkI l i n T root = 1) := Lib.hid (by unfold refchkI; rw [if_pos (by omega)])
    go_enter Tryd.func37, Tryd.ntmps37
    go_wp2_with fail
    go_ret
    exact ⟨by rw [HE.out]; rfl, Below.refl _ _⟩
  · by_cases h2 : i < 0
    ·
      have HE : Hid (refchkI l i n T root = 1) := Lib.hid (by unfold refchkI; rw [if_pos (by omega)])
      go_enter Tryd.func37, Tryd.ntmps37
      go_wp2_with fail
      go_ret
      exact ⟨by rw [HE.out]; rfl, Below.refl _ _⟩
    · by_cases h3 : n ≤ i
      ·
        have HE : Hid (refchkI l i n T root = 1) := Lib.hid (by unfold refchkI; rw [if_pos (by omega)])
        go_enter Tryd.func37, Tryd.ntmps37
        go_wp2_with fail
        go_ret
        exact ⟨by rw [HE.out]; rfl, Below.refl _ _⟩
      · obtain ⟨a, rfl⟩ : ∃ k : Nat, i = (k : Int) := ⟨i.toNat, by omega⟩
        obtain ⟨m, rfl⟩ : ∃ k : Nat, n = (k : Int) := ⟨n.toNat, by omega⟩
        have hE : refchkI l a m T root = if (Rfc.up nodeS (leafS l) a m T []).2 = true ∧ (Rfc.up nodeS (leafS l) a m T []).1 = root then 0 else 17 := by
          unfold refchkI
          rw [if_neg (by omega)]
          rfl
        have hup := refup_any m (leafS l) a T q c
        generalize Rfc.up nodeS (leafS l) a m T [] = R at hE hup
        obtain ⟨U, V⟩ := R
        have HUP := Lib.hid hup
        have hll : (0 :: l).length ≤ 70368744177664 := by simp; omega
        have HLE := Lib.hid (show leafS l = sha (0 :: l) from rfl)
        clear hup
        go_enter Tryd.func37, Tryd.ntmps37
        go_wp2_with fail
        refine (sum_any ⟨(0 :: l).toArray⟩ (0 :: l) (by rfl) _ HR.out hll).mono ?_
        rintro e w1 ⟨rfl, hb1⟩
        rw [← HLE.out]
        have HB1 := Lib.hid hb1
        clear hb1
        go_wp2_with fail
        refine (HUP.out w1 (by omega) (by omega) (by rw [leafS_length]; decide) HT.out (HR.out.below HB1.out) (HRD.out.below HB1.out)).mono ?_
        rintro e w2 ⟨rfl, hb2⟩
        have HB2 : Hid (Below w.heap.size w w2) := Lib.hid (HB1.out.trans (hb2.mono HB1.out.size))
        have HE := Lib.hid hE
        clear hb2 hE
        cases V with
        | false =>
          have HA : Hid (refchkI l a m T root = 17) := Lib.hid (by rw [HE.out, if_neg (by simp)])
          go_wp2_with fail
          go_ret
          exact ⟨by rw [HA.out]; rfl, HB2.out⟩
        | true =>
          by_cases hUR : U = root
          · have HA : Hid (refchkI l a m T root = 0) := Lib.hid (by rw [HE.out, if_pos ⟨rfl, hUR⟩])
            subst hUR
            go_wp2_with fail
            go_ret
            exact ⟨by rw [HA.out]; rfl, HB2.out⟩
          · have HA : Hid (refchkI l a m T root = 17) := Lib.hid (by rw [HE.out, if_neg (fun h => hUR h.2)])
            have hur : (U == root) = false := by simpa using hUR
            go_wp2_with fail
            go_ret
            exact ⟨by rw [HA.out]; rfl, HB2.out⟩
end Ref
end Go.Proofs.YtkembhonfehlbaaDoor

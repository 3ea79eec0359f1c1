/- The walks of the document's both and CheckConsistency of layer 16. -/
import Derived.Test.YtkembhonfehlbaaDoorRfcU
namespace Go.Proofs.YtkembhonfehlbaaDoor
open Go.RowKit Bits Mem Sha
namespace Ref
theorem both_step (m n : Nat) (T : List (List UInt8)) (t : Nat) (f : Bool) (old : List UInt8) (h : m < n ∧ 1 ≤ m) (hT : T.length = t + 1) :
    Rfc.both nodeS m n T f old [] = if m ≤ Rfc.hf n then ((Rfc.both nodeS m (Rfc.hf n) (T.take t) f old []).1, nodeS (Rfc.both nodeS m (Rfc.hf n) (T.take t) f old []).2.1 (T.getD t []), (Rfc.both nodeS m (Rfc.hf n) (T.take t) f old []).2.2)
      else (nodeS (T.getD t []) (Rfc.both nodeS (m - Rfc.hf n) (n - Rfc.hf n) (T.take t) false old []).1, nodeS (T.getD t []) (Rfc.both nodeS (m - Rfc.hf n) (n - Rfc.hf n) (T.take t) false old []).2.1, (Rfc.both nodeS (m - Rfc.hf n) (n - Rfc.hf n) (T.take t) false old []).2.2) := by
  obtain ⟨h3, h4⟩ := last_of hT
  rw [Rfc.both, dif_pos h, h3, h4]
theorem both_len (n : Nat) : ∀ (m : Nat) (T : List (List UInt8)) (f : Bool) (old : List UInt8), old.length ≤ 1000 → (∀ x ∈ T, x.length ≤ 1000) → (Rfc.both nodeS m n T f old []).1.length ≤ 1000 ∧ (Rfc.both nodeS m n T f old []).2.1.length ≤ 1000 := by
  induction n using Nat.strongRecOn with
  | _ n ih =>
    intro m T f old ho hT
    rw [Rfc.both]
    split
    · rename_i h
      split
      · exact ⟨Nat.zero_le _, Nat.zero_le _⟩
      · have hd : ∀ x ∈ T.dropLast, x.length ≤ 1000 := fun x hx => hT x (List.dropLast_subset T hx)
        split
        · have := ih (Rfc.hf n) (Rfc.hf_lt n (by omega)) m T.dropLast f old ho hd
          exact ⟨this.1, by show (nodeS _ _).length ≤ 1000; rw [nodeS_length]; decide⟩
        · exact ⟨by show (nodeS _ _).length ≤ 1000; rw [nodeS_length]; decide, by show (nodeS _ _).length ≤ 1000; rw [nodeS_length]; decide⟩
    · cases f
      · simp only [cond_false]
        split
        · match T, hT with
          | [], _ => exact ⟨Nat.zero_le _, Nat.zero_le _⟩
          | x :: _, hT => exact ⟨hT x (by simp), hT x (by simp)⟩
        · exact ⟨Nat.zero_le _, Nat.zero_le _⟩
      · exact ⟨ho, ho⟩
set_option maxRecDepth 100000 in
set_option maxHeartbeats 8000000 in
theorem refboth_any (n : Nat) : ∀ (m : Nat) (T : List (List UInt8)) (f : Bool) (old : List UInt8) (q : Option Addr) (c : Nat) (w : World), 1 ≤ m → m ≤ n → n ≤ 9223372036854775807 → old.length ≤ 1000 → (∀ x ∈ T, x.length ≤ 1000) → Ref.Tabs w → Rd w 1 (.slice q T.length c) T.length (strs T) →
    Calls Tryd.prog 67 #[.int .i64 m, .int .i64 n, .slice q T.length c, .bool f, .string ⟨old.toArray⟩] w fun e w' => e = .returned (.tuple #[.string ⟨(Rfc.both nodeS m n T f old []).1.toArray⟩, .string ⟨(Rfc.both nodeS m n T f old []).2.1.toArray⟩, .bool (Rfc.both nodeS m n T f old []).2.2]) ∧ Below w.heap.size w w' := by
  induction n using Nat.strongRecOn with
  | _ n ih =>
    intro m T f old q c w h1m hmn hn ho hT hR hrd
    have HIH := Lib.hid ih
    have HR := Lib.hid hR
    have HT := Lib.hid hT
    have HOL := Lib.hid ho
    have hcap := Rd_cap hrd
    have hTc := hcap.1
    have HRD := Lib.hid hrd
    clear ih hR hT hrd ho hcap
    by_cases h1 : m = n
    · subst h1
      cases f with
      | true =>
        by_cases h0 : T = []
        · subst h0
          have HU : Hid (Rfc.both nodeS m m [] true old [] = (old, old, true)) := Lib.hid (by rw [Rfc.both, dif_neg (by omega)]; rfl)
          go_enter Tryd.func67, Tryd.ntmps67
          go_wp2_with fail
          go_ret3
          exact ⟨by rw [HU.out]; rfl, Below.refl _ _⟩
        · have hl : ((T.length : Int) == 0) = false := by
            rw [beq_eq_false_iff_ne]
            have : T.length ≠ 0 := fun h => h0 (List.eq_nil_of_length_eq_zero h)
            omega
          have HU : Hid (Rfc.both nodeS m m T true old [] = (old, old, false)) := Lib.hid (by rw [Rfc.both, dif_neg (by omega), cond_true, decide_eq_false h0])
          clear h0
          go_enter Tryd.func67, Tryd.ntmps67
          go_wp2_with fail
          go_ret3
          exact ⟨by rw [HU.out]; rfl, Below.refl _ _⟩
      | false =>
        by_cases h0 : T.length = 1
        · obtain ⟨x, rfl⟩ := List.length_eq_one_iff.1 h0
          have HU : Hid (Rfc.both nodeS m m [x] false old [] = (x, x, true)) := Lib.hid (by rw [Rfc.both, dif_neg (by omega), cond_false]; rfl)
          obtain ⟨b, o, hqe, hb, hnc, hcm, hcell⟩ := Rd_lt HRD.out (by simp)
          subst hqe
          have cX : w.cell? ⟨b, o, none⟩ = some (.string ⟨x.toArray⟩) := hcell 0 _ rfl
          clear h0 hcell hnc hcm
          go_enter Tryd.func67, Tryd.ntmps67
          go_wp2_with fail
          refine Rc.region (w.heap.size) 9 [] [] (by kernel_rfl) (Nat.le_refl _) (by kernel_rfl) ?_; intro p; simp only [List.take, List.drop]
          iterate 9 (refine Rc.rK rfl rfl ?_; intro K hK; apply Exists.intro; refine ⟨?_, ?_⟩; (focus (intro x hx; have cx := Rc.cell_le hx hb cX; go_simp; (first | (fail) | ((try go_bits); (try go_simp); (try rfl))))); go_simp; refine hK _ ?_; clear hK K)
          refine Rc.done fun x Fs hx hle hg => ?_
          have HBX := Lib.hid (Rc.undrew hx)
          clear hx hle hg cX
          go_wp2_with fail
          refine NoPanic.normal ?_
          go_wp2_with fail
          go_ret3
          exact ⟨by rw [HU.out]; rfl, HBX.out⟩
        · have hl : ((T.length : Int) != 1) = true := by rw [bne_iff_ne]; omega
          have HU : Hid (Rfc.both nodeS m m T false old [] = ([], [], false)) := Lib.hid (by rw [Rfc.both, dif_neg (by omega), cond_false, if_neg h0])
          clear h0
          go_enter Tryd.func67, Tryd.ntmps67
          go_wp2_with fail
          go_ret3
          exact ⟨by rw [HU.out]; rfl, Below.refl _ _⟩
    · have hmnI : ((m : Int) == (n : Int)) = false := by rw [beq_eq_false_iff_ne]; omega
      have hlt : m < n ∧ 1 ≤ m := by omega
      by_cases h0 : T = []
      · subst h0
        have HU : Hid (Rfc.both nodeS m n [] f old [] = ([], [], false)) := Lib.hid (by rw [Rfc.both, dif_pos hlt]; rfl)
        go_enter Tryd.func67, Tryd.ntmps67
        go_wp2_with fail
        go_ret3
        exact ⟨by rw [HU.out]; rfl, Below.refl _ _⟩
      · obtain ⟨t, ht⟩ : ∃ t, T.length = t + 1 := ⟨T.length - 1, by have : T.length ≠ 0 := fun h => h0 (List.eq_nil_of_length_eq_zero h); omega⟩
        have HST := Lib.hid (both_step m n T t f old hlt ht)
        have hk1 := Rfc.hf_lt n (by omega)
        have hk0 := Rfc.hf_pos n
        have HHF := Lib.hid (refhalf_any n · (by omega) hn)
        obtain ⟨k, hk⟩ : ∃ k, k = Rfc.hf n := ⟨_, rfl⟩
        rw [← hk] at hk1 hk0 HST HHF
        obtain ⟨X, hX⟩ : ∃ X, X = T.getD t [] := ⟨_, rfl⟩
        have HXL : Hid (X.length ≤ 1000) := Lib.hid (by rw [hX, show T.getD t [] = T[t] by simp [List.getD, show t < T.length by omega]]; exact HT.out _ (List.getElem_mem _))
        obtain ⟨b, o, hqe, hb, hnc, hcm, hcell⟩ := Rd_lt HRD.out (by omega)
        subst hqe
        have cX : w.cell? ⟨b, o + t, none⟩ = some (.string ⟨X.toArray⟩) := by rw [hX]; exact hcell t _ (strs_get (by omega))
        rw [← hX] at HST
        have htl : (T.take t).length = t := by rw [List.length_take]; omega
        have HTA : Hid (∀ x ∈ T.take t, x.length ≤ 1000) := Lib.hid (fun y hy => HT.out y (List.mem_of_mem_take hy))
        have HTK : Hid (Rd w 1 (.slice (some ⟨b, o, none⟩) t c) t (strs (T.take t))) := Lib.hid (by rw [strs_take]; exact Rd_take1 HRD.out (by omega))
        have HREC : Hid (∀ (j m : Nat) (g : Bool) (x : World), m < n → 1 ≤ j → j ≤ m → Below w.heap.size w x → Calls Tryd.prog 67 #[.int .i64 j, .int .i64 m, .slice (some ⟨b, o, none⟩) t c, .bool g, .string ⟨old.toArray⟩] x fun e w' => e = .returned (.tuple #[.string ⟨(Rfc.both nodeS j m (T.take t) g old []).1.toArray⟩, .string ⟨(Rfc.both nodeS j m (T.take t) g old []).2.1.toArray⟩, .bool (Rfc.both nodeS j m (T.take t) g old []).2.2]) ∧ Below x.heap.size x w') := Lib.hid (fun j m g x hm hj hjm hx => by
          have := HIH.out m hm j (T.take t) g old (some ⟨b, o, none⟩) c x hj hjm (by omega) HOL.out HTA.out (HR.out.below hx) (by rw [htl]; exact HTK.out.below hx)
          rw [htl] at this
          exact this)
        rw [ht] at hTc ⊢
        clear HIH hcell hX hk h0 htl hnc hcm HRD ht h1
        have htI : ((t : Int) + 1 == 0) = false := by rw [beq_eq_false_iff_ne]; omega
        have htc : t ≤ c := by omega
        have htlt : (t : Int) < (t : Int) + 1 := by omega
        have htcI : (t : Int) ≤ (c : Int) := by omega
        have ht63 : (t : Int) + 1 ≤ 9223372036854775807 := by
          have := (Rd_cap HTK.out).2
          unfold maxLen at this
          omega
        go_enter Tryd.func67, Tryd.ntmps67
        go_wp2_with fail
        refine Rc.region (w.heap.size) 10 [Rc.F 1 (fun _ => .int .i64 (k : Nat)) (fun _ _ _ => True)] [] (by kernel_rfl) (Nat.le_refl _) (by kernel_rfl) ?_; intro p; simp only [List.take, List.drop]
        iterate 1 (refine Rc.rK rfl rfl ?_; intro K hK; apply Exists.intro; refine ⟨?_, ?_⟩; (focus (intro x hx;  go_simp; (first | (fail) | ((try go_bits); (try go_simp); (try rfl))))); go_simp; refine hK _ ?_; clear hK K)
        refine Rc.fK rfl rfl rfl rfl ?_ ?_
        · intro x Fs hx hle hg K hK
          go_wp2_with fail
          refine (HHF.out x).mono ?_
          rintro e x' ⟨rfl, hxx⟩
          subst hxx
          go_wp2_with fail
          exact hK Rc.dflt _ (Below.refl _ _) (fun _ _ _ _ => trivial)
        intro K hK; go_simp; refine hK _ ?_; clear hK K
        iterate 5 (refine Rc.rK rfl rfl ?_; intro K hK; apply Exists.intro; refine ⟨?_, ?_⟩; (focus (intro x hx;  go_simp; (first | (fail) | ((try go_bits); (try go_simp); (try rfl))))); go_simp; refine hK _ ?_; clear hK K)
        iterate 1 (refine Rc.rK rfl rfl ?_; intro K hK; apply Exists.intro; refine ⟨?_, ?_⟩; (focus (intro x hx; have cx := Rc.cell_le hx hb cX; go_simp; (first | (fail) | ((try go_bits); (try go_simp); (try rfl))))); go_simp; refine hK _ ?_; clear hK K)
        iterate 2 (refine Rc.rK rfl rfl ?_; intro K hK; apply Exists.intro; refine ⟨?_, ?_⟩; (focus (intro x hx;  go_simp; (first | (fail) | ((try go_bits); (try go_simp); (try rfl))))); go_simp; refine hK _ ?_; clear hK K)
        refine Rc.done fun x Fs hx hle hg => ?_
        have HBX := Lib.hid (Rc.undrew hx)
        clear hx hle hg cX
        go_wp2_with fail
        refine NoPanic.normal ?_
        by_cases hik : m ≤ k
        · have hikI : (m : Int) ≤ (k : Int) := by omega
          rw [if_pos hik] at HST
          have hrec := HREC.out m k f x hk1 h1m hik HBX.out
          have hul := both_len k m (T.take t) f old HOL.out HTA.out
          generalize Rfc.both nodeS m k (T.take t) f old [] = R at HST hrec hul
          obtain ⟨U, V, Z⟩ := R
          have HUL : Hid (U.length ≤ 1000 ∧ V.length ≤ 1000) := Lib.hid hul
          have HREC2 := Lib.hid hrec
          clear hrec hul hik
          go_wp2_with fail
          refine HREC2.out.mono ?_
          rintro e w3 ⟨rfl, hb3⟩
          have HB3 : Hid (Below w.heap.size w w3) := Lib.hid (HBX.out.trans (hb3.mono HBX.out.size))
          clear hb3
          go_wp2_with fail
          refine (refnode_any V X w3 (HR.out.below HB3.out) (by have := HUL.out; omega) (by have := HXL.out; omega)).mono ?_
          rintro e w4 ⟨rfl, hb4⟩
          have HB4 : Hid (Below w.heap.size w w4) := Lib.hid (HB3.out.trans (hb4.mono HB3.out.size))
          clear hb4
          go_wp2_with fail
          go_ret3
          exact ⟨by rw [HST.out]; rfl, HB4.out⟩
        · have hikI : ¬ (m : Int) ≤ (k : Int) := by omega
          have hji : (m : Int) - (k : Int) = ((m - k : Nat) : Int) := by omega
          have hjn : (n : Int) - (k : Int) = ((n - k : Nat) : Int) := by omega
          rw [if_neg hik] at HST
          have hrec := HREC.out (m - k) (n - k) false x (by omega) (by omega) (by omega) HBX.out
          have hul := both_len (n - k) (m - k) (T.take t) false old HOL.out HTA.out
          generalize Rfc.both nodeS (m - k) (n - k) (T.take t) false old [] = R at HST hrec hul
          rw [← hji, ← hjn] at hrec
          obtain ⟨U, V, Z⟩ := R
          have HUL : Hid (U.length ≤ 1000 ∧ V.length ≤ 1000) := Lib.hid hul
          have HREC2 := Lib.hid hrec
          clear hrec hul hik hji hjn
          go_wp2_with fail
          refine HREC2.out.mono ?_
          rintro e w3 ⟨rfl, hb3⟩
          have HB3 : Hid (Below w.heap.size w w3) := Lib.hid (HBX.out.trans (hb3.mono HBX.out.size))
          clear hb3
          go_wp2_with fail
          refine (refnode_any X U w3 (HR.out.below HB3.out) (by have := HXL.out; omega) (by have := HUL.out; omega)).mono ?_
          rintro e w4 ⟨rfl, hb4⟩
          have HB4 : Hid (Below w.heap.size w w4) := Lib.hid (HB3.out.trans (hb4.mono HB3.out.size))
          clear hb4
          go_wp2_with fail
          refine (refnode_any X V w4 (HR.out.below HB4.out) (by have := HXL.out; omega) (by have := HUL.out; omega)).mono ?_
          rintro e w5 ⟨rfl, hb5⟩
          have HB5 : Hid (Below w.heap.size w w5) := Lib.hid (HB4.out.trans (hb5.mono HB4.out.size))
          clear hb5
          go_wp2_with fail
          go_ret3
          exact ⟨by rw [HST.out]; rfl, HB5.out⟩
/-- What the document's CheckConsistency answers. -/
def refchkC (m n : Int) (T : List (List UInt8)) (old root : List UInt8) : Int :=
  if m < 0 ∨ n < m then 1 else if m = 0 then (if T = [] ∧ old = sha [] ∧ (0 < n ∨ root = old) then 0 else 17)
  else if (Rfc.both nodeS m.toNat n.toNat T true old []).2.2 = true ∧ (Rfc.both nodeS m.toNat n.toNat T true old []).1 = old ∧ (Rfc.both nodeS m.toNat n.toNat T true old []).2.1 = root then 0 else 17
set_option maxRecDepth 100000 in
set_option maxHeartbeats 8000000 in
theorem refcheckC_any (m n : Int) (T : List (List UInt8)) (q : Option Addr) (c : Nat) (old root : List UInt8) (w : World) (hol : old.length ≤ 1000) (hn : n ≤ 9223372036854775807) (hT : ∀ x ∈ T, x.length ≤ 1000) (hR : Ref.Tabs w) (hrd : Rd w 1 (.slice q T.length c) T.length (strs T)) :
    Calls Tryd.prog 38 #[.int .i64 m, .int .i64 n, .slice q T.length c, .string ⟨old.toArray⟩, .string ⟨root.toArray⟩] w fun e w' => e = .returned (.int .i64 (refchkC m n T old root)) ∧ Below w.heap.size w w' := by
  have HR := Lib.hid hR
  have HT := Lib.hid hT
  have HRD := Lib.hid hrd
  clear hR hT hrd
  by_cases h1 : m < 0
  ·
    have HE : Hid (refchkC m n T old root = 1) := Lib.hid (by unfold refchkC; rw [if_pos (by omega)])
    go_enter Tryd.func38, Tryd.ntmps38
    go_wp2_with fail
    go_ret
    exact ⟨by rw [HE.out]; rfl, Below.refl _ _⟩
  · by_cases h2 : n < m
    ·
      have HE : Hid (refchkC m n T old root = 1) := Lib.hid (by unfold refchkC; rw [if_pos (by omega)])
      go_enter Tryd.func38, Tryd.ntmps38
      go_wp2_with fail
      go_ret
      exact ⟨by rw [HE.out]; rfl, Below.refl _ _⟩
    · by_cases h3 : m = 0
      · subst h3
        have hE : refchkC 0 n T old root = if T = [] ∧ old = sha [] ∧ (0 < n ∨ root = old) then 0 else 17 := by
          unfold refchkC
          rw [if_neg (by omega), if_pos rfl]
        obtain ⟨R, hRR⟩ : ∃ R, R = sha [] := ⟨_, rfl⟩
        have HRE := Lib.hid hRR
        rw [← hRR] at hE
        clear hRR
        by_cases h0 : T = []
        · subst h0
          by_cases hoR : old = R
          · subst hoR
            by_cases hn0 : 0 < n
            · have hnI : (n == 0) = false := by rw [beq_eq_false_iff_ne]; omega
              have HA : Hid (refchkC 0 n [] old root = 0) := Lib.hid (by rw [hE, if_pos ⟨rfl, rfl, .inl hn0⟩])
              clear hE
              go_enter Tryd.func38, Tryd.ntmps38
              go_wp2_with fail
              refine (sum_any ⟨([] : List UInt8).toArray⟩ [] (by rfl) _ HR.out (by decide)).mono ?_
              rintro e w1 ⟨rfl, hb1⟩
              rw [← HRE.out]
              have HB1 := Lib.hid hb1
              clear hb1
              go_wp2_with fail
              go_ret
              exact ⟨by rw [HA.out]; rfl, HB1.out⟩
            · obtain rfl : n = 0 := by omega
              by_cases hro : root = old
              · subst hro
                have HA : Hid (refchkC 0 0 [] root root = 0) := Lib.hid (by rw [hE, if_pos ⟨rfl, rfl, .inr rfl⟩])
                clear hE
                go_enter Tryd.func38, Tryd.ntmps38
                go_wp2_with fail
                refine (sum_any ⟨([] : List UInt8).toArray⟩ [] (by rfl) _ HR.out (by decide)).mono ?_
                rintro e w1 ⟨rfl, hb1⟩
                rw [← HRE.out]
                have HB1 := Lib.hid hb1
                clear hb1
                go_wp2_with fail
                go_ret
                exact ⟨by rw [HA.out]; rfl, HB1.out⟩
              · have HA : Hid (refchkC 0 0 [] old root = 17) := Lib.hid (by rw [hE, if_neg (fun h => by rcases h.2.2 with h | h; omega; exact hro h)])
                have hro2 : (root == old) = false := by simpa using hro
                clear hE
                go_enter Tryd.func38, Tryd.ntmps38
                go_wp2_with fail
                refine (sum_any ⟨([] : List UInt8).toArray⟩ [] (by rfl) _ HR.out (by decide)).mono ?_
                rintro e w1 ⟨rfl, hb1⟩
                rw [← HRE.out]
                have HB1 := Lib.hid hb1
                clear hb1
                go_wp2_with fail
                go_ret
                exact ⟨by rw [HA.out]; rfl, HB1.out⟩
          · have HA : Hid (refchkC 0 n [] old root = 17) := Lib.hid (by rw [hE, if_neg (fun h => hoR h.2.1)])
            have hor2 : (old == R) = false := by simpa using hoR
            clear hE
            go_enter Tryd.func38, Tryd.ntmps38
            go_wp2_with fail
            refine (sum_any ⟨([] : List UInt8).toArray⟩ [] (by rfl) _ HR.out (by decide)).mono ?_
            rintro e w1 ⟨rfl, hb1⟩
            rw [← HRE.out]
            have HB1 := Lib.hid hb1
            clear hb1
            go_wp2_with fail
            go_ret
            exact ⟨by rw [HA.out]; rfl, HB1.out⟩
        · have hl : ((T.length : Int) != 0) = true := by
            rw [bne_iff_ne]
            have : T.length ≠ 0 := fun h => h0 (List.eq_nil_of_length_eq_zero h)
            omega
          have HA : Hid (refchkC 0 n T old root = 17) := Lib.hid (by rw [hE, if_neg (fun h => h0 h.1)])
          clear h0 hE
          go_enter Tryd.func38, Tryd.ntmps38
          go_wp2_with fail
          go_ret
          exact ⟨by rw [HA.out]; rfl, Below.refl _ _⟩
      · obtain ⟨a, rfl⟩ : ∃ k : Nat, m = (k : Int) := ⟨m.toNat, by omega⟩
        obtain ⟨b, rfl⟩ : ∃ k : Nat, n = (k : Int) := ⟨n.toNat, by omega⟩
        have h3I : ((a : Int) == 0) = false := by rw [beq_eq_false_iff_ne]; exact h3
        have hE : refchkC a b T old root = if (Rfc.both nodeS a b T true old []).2.2 = true ∧ (Rfc.both nodeS a b T true old []).1 = old ∧ (Rfc.both nodeS a b T true old []).2.1 = root then 0 else 17 := by
          unfold refchkC
          rw [if_neg (by omega), if_neg h3]
          rfl
        have hup := refboth_any b a T true old q c
        generalize Rfc.both nodeS a b T true old [] = R at hE hup
        obtain ⟨U, V, Z⟩ := R
        have HUP := Lib.hid (hup w (by omega) (by omega) (by omega) hol HT.out HR.out HRD.out)
        clear hup
        go_enter Tryd.func38, Tryd.ntmps38
        go_wp2_with fail
        refine HUP.out.mono ?_
        rintro e w2 ⟨rfl, hb2⟩
        have HB2 := Lib.hid hb2
        have HE := Lib.hid hE
        clear hb2 hE
        cases Z with
        | false =>
          have HA : Hid (refchkC a b T old root = 17) := Lib.hid (by rw [HE.out, if_neg (by simp)])
          go_wp2_with fail
          go_ret
          exact ⟨by rw [HA.out]; rfl, HB2.out⟩
        | true =>
          by_cases hUR : U = old
          · subst hUR
            by_cases hVR : V = root
            · subst hVR
              have HA : Hid (refchkC a b T U V = 0) := Lib.hid (by rw [HE.out, if_pos ⟨rfl, rfl, rfl⟩])
              go_wp2_with fail
              go_ret
              exact ⟨by rw [HA.out]; rfl, HB2.out⟩
            · have HA : Hid (refchkC a b T U root = 17) := Lib.hid (by rw [HE.out, if_neg (fun h => hVR h.2.2)])
              have hvr : (V == root) = false := by simpa using hVR
              go_wp2_with fail
              go_ret
              exact ⟨by rw [HA.out]; rfl, HB2.out⟩
          · have HA : Hid (refchkC a b T old root = 17) := Lib.hid (by rw [HE.out, if_neg (fun h => hUR h.2.1)])
            have hur : (U == old) = false := by simpa using hUR
            go_wp2_with fail
            go_ret
            exact ⟨by rw [HA.out]; rfl, HB2.out⟩
end Ref
end Go.Proofs.YtkembhonfehlbaaDoor

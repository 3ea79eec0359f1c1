/- The walk of custumallaw16.RfclogChecks. -/
import Derived.Test.YtkembhonfehlbaaDoorRfcE
import Derived.Test.YtkembhonfehlbaaDoorRfcE
import Derived.Test.YtkembhonfehlbaaDoorRfcB
import Derived.Test.YtkembhonfehlbaaDoorRfcG
namespace Go.Proofs.YtkembhonfehlbaaDoor
open Go.RowKit Bits Mem Sha
namespace Ref
theorem ite_of_iff {α : Type} {p q : Prop} [Decidable p] [Decidable q] (h : p ↔ q) (a b : α) : (if p then a else b) = if q then a else b := by
  by_cases hp : p
  · rw [if_pos hp, if_pos (h.1 hp)]
  · rw [if_neg hp, if_neg (fun hq => hp (h.2 hq))]
theorem chkI_same (l : List UInt8) (i n : Int) (P : List (List UInt8)) (root : List UInt8) : refchkI l i n P root = chkI l i n P root := by
  unfold chkI refchkI
  by_cases h : n < 1 ∨ i < 0 ∨ n ≤ i
  · rw [if_pos h, if_pos h]
  · rw [if_neg h, if_neg h]
    exact ite_of_iff (Rfc.incl_same nodeS i.toNat n.toNat (by omega) (leafS l) [] root P).symm 0 17
theorem chkC_same (m n : Int) (P : List (List UInt8)) (old root : List UInt8) : refchkC m n P old root = chkC m n P old root := by
  unfold chkC refchkC
  by_cases h1 : m < 0 ∨ n < m
  · rw [if_pos h1, if_pos h1]
  · rw [if_neg h1, if_neg h1]
    by_cases h2 : m = 0
    · rw [if_pos h2, if_pos (Or.inl h2)]
      unfold shortA
      rw [if_pos h2]
    · by_cases h3 : m = n
      · subst h3
        rw [if_neg h2, if_pos (Or.inr rfl)]
        unfold shortA
        rw [if_neg h2]
        have hb : Rfc.both nodeS m.toNat m.toNat P true old [] = (old, old, decide (P = [])) := by rw [Rfc.both, dif_neg (by omega), cond_true]
        rw [hb]
        refine ite_of_iff ⟨fun h => ⟨by simpa using h.1, h.2.2.symm⟩, fun h => ⟨by simpa using h.1, rfl, h.2.symm⟩⟩ 0 17
      · rw [if_neg h2, if_neg (fun h : m = 0 ∨ m = n => h.elim h2 h3)]
        have hc := Rfc.cons_same nodeS m.toNat m.toNat n.toNat (by omega) (by omega) (by omega) old root [] P
        refine ite_of_iff ?_ 0 17
        rw [← hc]
        cases hs : Rfc.start (Rfc.pow2 m.toNat) old P with
        | nil => exact ⟨fun ⟨_, _, h, _⟩ => (by cases h), fun h => (by cases h)⟩
        | cons x q => exact ⟨fun ⟨x', q', h, h'⟩ => (by cases h; exact h'), fun h => ⟨x, q, rfl, h⟩⟩
/-- A claim's cells. -/
def claimA (i n : Int) (v : Value) (old root : List UInt8) (r : Bool) : Array Value := ([Value.int .i64 i, Value.int .i64 n, v] ++ (bys old ++ (bys root ++ [Value.bool r]))).toArray
theorem claim_old {i n : Int} {v : Value} {old root : List UInt8} {r : Bool} (ho : old.length = 32) {j : Nat} (hj : j < 32) : (claimA i n v old root r)[3 + j]? = (bys old)[j]? := by
  unfold claimA
  rw [List.getElem?_toArray, List.getElem?_append_right (by simp), List.getElem?_append_left (by rw [bys_length, ho]; simp; omega)]
  congr 1
  simp
theorem claim_root {i n : Int} {v : Value} {old root : List UInt8} {r : Bool} (ho : old.length = 32) (hr : root.length = 32) {j : Nat} (hj : j < 32) : (claimA i n v old root r)[35 + j]? = (bys root)[j]? := by
  unfold claimA
  rw [List.getElem?_toArray, List.getElem?_append_right (by simp; omega), List.getElem?_append_right (by rw [bys_length, ho]; simp; omega), List.getElem?_append_left (by rw [bys_length, bys_length, ho, hr]; simp; omega)]
  congr 1
  simp [bys_length, ho]
  omega
section
variable {w : World} {g : Nat} {t : TypeId} {fr : Nat × Nat} {i n : Int} {v : Value} {old root : List UInt8} {r : Bool}
theorem claim_cells (h : w.heap[g]? = some (.cells (claimA i n v old root r) t fr)) : w.cell? ⟨g, 0, none⟩ = some (.int .i64 i) ∧ w.cell? ⟨g, 1, none⟩ = some (.int .i64 n) ∧ w.cell? ⟨g, 2, none⟩ = some v :=
  ⟨(cell_of_row _ _ _ _ _ _ h).trans rfl, (cell_of_row _ _ _ _ _ _ h).trans rfl, (cell_of_row _ _ _ _ _ _ h).trans rfl⟩
theorem part_load {o : Nat} {l : List UInt8} (hl : l.length = 32) (hc : ∀ j, j < 32 → w.cell? ⟨g, o + j, none⟩ = (bys l)[j]?) : (Instr.loadAt 22 (.pointer (some ⟨g, o, none⟩))).run Tryd.prog w = .ok (.agg (bysA l)) w := by
  refine run_loadAt_mid w g o _ (bys l) _ (fun j u hu => ?_) Tryd.underlying22 rfl (by rw [bys_length, hl]; exact info32)
  have hj := (List.getElem?_eq_some_iff.1 hu).1
  rw [bys_length, hl] at hj
  rw [hc j hj, hu]
theorem part_rd {o : Nat} {l : List UInt8} (hg : g < w.heap.size) (hl : l.length = 32) (hc : ∀ j, j < 32 → w.cell? ⟨g, o + j, none⟩ = (bys l)[j]?) : Rd w 1 (.slice (some ⟨g, o, none⟩) 32 32) 32 (bys l) := by
  refine ⟨by rw [bys_length, hl], .inr ⟨g, o, 32, rfl, hg, Nat.le_refl _, by decide, fun j u hu => ?_⟩⟩
  have hj := (List.getElem?_eq_some_iff.1 hu).1
  rw [bys_length, hl] at hj
  rw [hc j hj, hu]
theorem claim_oldc (h : w.heap[g]? = some (.cells (claimA i n v old root r) t fr)) (ho : old.length = 32) : ∀ j, j < 32 → w.cell? ⟨g, 3 + j, none⟩ = (bys old)[j]? := fun j hj => by
  rw [cell_of_row w g _ _ _ _ h, claim_old ho hj]
theorem claim_rootc (h : w.heap[g]? = some (.cells (claimA i n v old root r) t fr)) (ho : old.length = 32) (hr : root.length = 32) : ∀ j, j < 32 → w.cell? ⟨g, 35 + j, none⟩ = (bys root)[j]? := fun j hj => by
  rw [cell_of_row w g _ _ _ _ h, claim_root ho hr hj]
end
set_option maxRecDepth 100000 in
set_option maxHeartbeats 8000000 in
theorem rfclogChecks_any (q : Option Addr) (c : Nat) (l : List UInt8) (i n : Int) (qs : Option Addr) (cs : Nat) (S : List (List UInt8)) (old root : List UInt8) (rt : Bool) (w : World) (hS : Sha.Tabs w) (hR : Ref.Tabs w) (hl : Rd w 1 (.slice q l.length c) l.length (bys l)) (hs : RdL w (.slice qs S.length cs) S) (ho : old.length = 32) (hr : root.length = 32) (hn : n ≤ 9223372036854775807) :
    Calls Tryd.prog 8 #[.slice q l.length c, .agg (claimA i n (.slice qs S.length cs) old root rt)] w fun e w' => e = .returned (.bool true) ∧ Below w.heap.size w w' := by
  obtain ⟨i0, hi, hz0, hz1, hz2⟩ := parts3 infoA32
  obtain ⟨w1, hw1⟩ : ∃ w1, w1 = w.alloc (.cells (claimA i n (.slice qs S.length cs) old root rt) 63) := ⟨_, rfl⟩
  have hb1 : Below w.heap.size w w1 := by rw [hw1]; exact (Below.refl _ _).alloc (Nat.le_refl _) _
  have hr1 : w1.heap[w.heap.size]? = some (.cells (claimA i n (.slice qs S.length cs) old root rt) 63 (0, 0)) := by rw [hw1]; exact Rg.heap_alloc_at w _ _ rfl
  have hcl := Rd_cap hl
  have hcs := Rd_cap hs.2
  have hm1 : (if (100 : Int) < (l.length : Int) then (100 : Int) else (l.length : Int)) = ((min l.length 100 : Nat) : Int) := by split <;> omega
  have hm2 : (if (70 : Int) < (S.length : Int) then (70 : Int) else (S.length : Int)) = ((min S.length 70 : Nat) : Int) := by split <;> omega
  have HT1 := Lib.hid (show (l.take 100).length = min l.length 100 by rw [List.length_take, Nat.min_comm])
  have HT2 := Lib.hid (show (S.take 70).length = min S.length 70 by rw [List.length_take, Nat.min_comm])
  have HL1 : Hid (Rd w1 1 (.slice q (min l.length 100) c) (min l.length 100) (bys (l.take 100))) := Lib.hid (by
    have := (Rd_take hl (Nat.min_le_left l.length 100)).below hb1
    rwa [show l.take (min l.length 100) = l.take 100 from take_min l 100] at this)
  have HS1 : Hid (RdL w1 (.slice qs (min S.length 70) cs) (S.take 70)) := Lib.hid (by
    have := (hs.cut' (Nat.min_le_left S.length 70)).below hb1
    rwa [show S.take (min S.length 70) = S.take 70 by rcases Nat.le_total S.length 70 with h | h <;> simp [Nat.min_eq_left, Nat.min_eq_right, h, List.take_of_length_le]] at this)
  obtain ⟨c0, c1, c2⟩ := claim_cells hr1
  have hmc1 : min l.length 100 ≤ c := by omega
  have hmc2 : min S.length 70 ≤ cs := by omega
  have hx1 : Below w1.heap.size w1 (w1.alloc (.cells #[] 22)) := (Below.refl _ _).alloc (Nat.le_refl _) _
  have HO1 := Lib.hid (Ow.lit w1 #[] 22 32 0 w1.heap.size (Nat.le_refl _) (Nat.zero_le _) rfl)
  have HX1 := Lib.hid hx1
  have hs2 : RdL (w1.alloc (.cells #[] 22)) (.slice qs (min S.length 70) cs) (S.take 70) := HS1.out.below hx1
  have HS2 := Lib.hid hs2
  have hgl := lt_of_heap hr1
  have d0 : (w1.alloc (.cells #[] 22)).cell? ⟨w.heap.size, 2, none⟩ = some (.slice qs S.length cs) := (hx1.cell (p := ⟨w.heap.size, 2, none⟩) hgl).trans c2
  have HS := Lib.hid hS
  have HR := Lib.hid hR
  have HOL := Lib.hid ho
  have HRL := Lib.hid hr
  have HW1 := Lib.hid hw1
  have HB1 := Lib.hid hb1
  have HR1 := Lib.hid hr1
  clear hS hR hl hs ho hr hw1 hb1 hr1 hcl hcs hx1 hs2
  go_enter Tryd.func8, Tryd.ntmps8
  go_wp2_with (first | (rw [← HW1.out]) | (at_builtin; go_must (refine app_ow rfl _ _ 61 61 rfl w1.heap.size 22 i0 (.agg (bysA zeros32)) 32 32 Tryd.underlying61 hi hz0 hz1 hz2 (by rfl) _ 0 _ rfl HO1.out _ (min S.length 70) _ rfl (Rd.src Tryd.underlying61 (by rw [← HT2.out] at HS2 ⊢; exact HS2.out.2) (bys_one _)) (by unfold maxLen; omega) (by omega) (by simp) ?_); go_must (intro v4 w4 how4 hg4); go_must (rw [Nat.zero_add] at how4); go_must (obtain ⟨q4, c4, rfl⟩ := Ow_form how4); go_must (refine Hid.out ?_)))
  refine Lib.hid ?_
  obtain ⟨L, hL⟩ : ∃ L, L = l.take 100 := ⟨_, rfl⟩
  obtain ⟨T, hT⟩ : ∃ T, T = S.take 70 := ⟨_, rfl⟩
  have hlL : min l.length 100 = L.length := by rw [hL]; exact HT1.out.symm
  have hlT : min S.length 70 = T.length := by rw [hT]; exact HT2.out.symm
  have HL100 : Hid (L.length ≤ 100) := Lib.hid (by omega)
  have HT70 : Hid (T.length ≤ 70) := Lib.hid (by omega)
  have hTA : All32 T := by rw [hT]; exact HS1.out.1
  have HTN : Hid (∀ x ∈ T, x.length ≤ 1000) := Lib.hid (fun x hx => by rw [hTA x hx]; decide)
  rw [← hL, hlL] at HL1
  rw [← hT, hlT] at how4
  rw [hlL, hlT]
  have hg4 : (w1.alloc (.cells #[] 22)).grownBy w4 (some w1.heap.size) := hg4
  have hb4 : Below w1.heap.size w1 w4 := HX1.out.grown hg4 HX1.out.size (fun j hj => by cases hj; exact Nat.le_refl _)
  have HB4 : Hid (Below w.heap.size w w4) := Lib.hid (HB1.out.trans (hb4.mono HB1.out.size))
  have HC4 := Lib.hid (Rp.row_le hb4 HR1.out)
  have HL4 := Lib.hid (HL1.out.below hb4)
  have HP4 : Hid (RdL w4 (.slice q4 T.length c4) T) := Lib.hid ⟨hTA, by simpa using Rd.of_ow how4⟩
  clear hL hT hlL hlT hg4 hb4 how4 hTA HS1 HS2 HL1 HR1 HX1 HO1 HW1 HT1 HT2 hm1 hm2 hmc1 hmc2 c0 c1 c2 d0 hgl
  go_wp2_with fail
  refine (texts16_any q4 c4 T w4 HP4.out (by have := HT70.out; omega)).mono ?_
  rintro e w5 ⟨v5, rfl, how5, hb5⟩
  obtain ⟨q5, c5, rfl⟩ := Ow_form how5
  have HT5 := Lib.hid (Rd.of_ow how5)
  have HB5 : Hid (Below w.heap.size w w5) := Lib.hid (HB4.out.trans (hb5.mono HB4.out.size))
  have HC5 := Lib.hid (Rp.row_le hb5 HC4.out)
  have HL5 := Lib.hid (HL4.out.below hb5)
  have HP5 := Lib.hid (HP4.out.below hb5)
  obtain ⟨c0, c1, c2⟩ := claim_cells HC5.out
  clear hb5 how5 HC4 HL4 HP4 HB4
  go_wp2_with (refine l_load rfl _ _ rfl _ (part_load HRL.out (claim_rootc HC5.out HOL.out HRL.out)) ?_)
  refine (checkI_any q c L i n q4 c4 T root w5 (HS.out.below HB5.out) HL5.out (by have := HL100.out; omega) HP5.out HRL.out hn).mono ?_
  rintro e w6 ⟨rfl, hb6⟩
  have HT6 := Lib.hid (HT5.out.below hb6)
  have HB6 : Hid (Below w.heap.size w w6) := Lib.hid (HB5.out.trans (hb6.mono HB5.out.size))
  have HC6 := Lib.hid (Rp.row_le hb6 HC5.out)
  have HL6 := Lib.hid (HL5.out.below hb6)
  have HP6 := Lib.hid (HP5.out.below hb6)
  clear c0 c1 c2
  obtain ⟨c0, c1, c2⟩ := claim_cells HC6.out
  obtain ⟨E1, hE1⟩ : ∃ E1, E1 = chkI L i n T root := ⟨_, rfl⟩
  have HE1 : Hid (refchkI L i n T root = E1) := Lib.hid (by rw [hE1, chkI_same])
  rw [← hE1]
  clear hb6 HC5 HL5 HP5 HB5 HT5 hE1
  go_wp2_with (first | (refine l_load rfl _ _ rfl _ (part_load HOL.out (claim_oldc HC6.out HOL.out)) ?_) | (refine l_load rfl _ _ rfl _ (part_load HRL.out (claim_rootc HC6.out HOL.out HRL.out)) ?_))
  refine (checkC_any i n q4 c4 T old root w6 (HS.out.below HB6.out) HP6.out (by have := HT70.out; omega) HOL.out HRL.out hn).mono ?_
  rintro e w7 ⟨rfl, hb7⟩
  have HT7 := Lib.hid (HT6.out.below hb7)
  have HB7 : Hid (Below w.heap.size w w7) := Lib.hid (HB6.out.trans (hb7.mono HB6.out.size))
  have HC7 := Lib.hid (Rp.row_le hb7 HC6.out)
  have HL7 := Lib.hid (HL6.out.below hb7)
  clear c0 c1 c2
  obtain ⟨c0, c1, c2⟩ := claim_cells HC7.out
  have hgl := lt_of_heap HC7.out
  obtain ⟨E2, hE2⟩ : ∃ E2, E2 = chkC i n T old root := ⟨_, rfl⟩
  have HE2 : Hid (refchkC i n T old root = E2) := Lib.hid (by rw [hE2, chkC_same])
  rw [← hE2]
  clear hb7 HC6 HL6 HP6 HB6 HT6 hE2
  go_wp2_with fail
  refine Rc.region (w7.heap.size) 32 [Rc.F 0 (fun _ => .bool true) (fun _ _ _ => True), Rc.F 13 (fun _ => .int .i64 E1) (fun _ _ _ => True), Rc.F 29 (fun _ => .int .i64 E2) (fun _ _ _ => True)] [] (by kernel_rfl) (Nat.le_refl _) (by kernel_rfl) ?_; intro p; simp only [List.take, List.drop]
  refine Rc.fK rfl rfl rfl rfl ?_ ?_
  · intro x Fs hx hle hg K hK
    have hbx := HB7.out.trans ((Rc.undrew hx).mono HB7.out.size)
    go_wp2_with fail
    refine (logs_any x (HS.out.below hbx) (HR.out.below hbx)).mono ?_
    rintro e x' ⟨rfl, hb⟩
    go_wp2_with fail
    exact hK Rc.dflt x' hb (fun _ _ _ _ => trivial)
  intro K hK; go_simp; refine hK _ ?_; clear hK K
  iterate 3 (refine Rc.rK rfl rfl ?_; intro K hK; apply Exists.intro; refine ⟨?_, ?_⟩; (focus (intro x hx;  go_simp; (first | (fail) | ((try go_bits); (try go_simp); (try rfl))))); go_simp; refine hK _ ?_; clear hK K)
  refine Rc.r_str rfl rfl 23 9 _ rfl 5 Tryd.underlying9 Tryd.underlying23 Tryd.underlying5 _ _ (L) rfl (fun x hx => HL7.out.below (Rc.undrew hx)) ?_; intro K hK; go_simp; refine hK _ ?_; clear hK K
  iterate 7 (refine Rc.rK rfl rfl ?_; intro K hK; apply Exists.intro; refine ⟨?_, ?_⟩; (focus (intro x hx; have d0 := Rc.cell_le hx hgl c0; have d1 := Rc.cell_le hx hgl c1; go_simp; (first | (fail) | ((try go_bits); (try go_simp); (try rfl))))); go_simp; refine hK _ ?_; clear hK K)
  refine Rc.r_str rfl rfl 23 9 _ rfl 5 Tryd.underlying9 Tryd.underlying23 Tryd.underlying5 _ _ (root) rfl (fun x hx => part_rd (lt_of_heap (Rp.row_le (Rc.undrew hx) HC7.out)) HRL.out (claim_rootc (Rp.row_le (Rc.undrew hx) HC7.out) HOL.out HRL.out)) ?_; intro K hK; go_simp; refine hK _ ?_; clear hK K
  refine Rc.fK rfl rfl rfl rfl ?_ ?_
  · intro x Fs hx hle hg K hK
    have hbx := HB7.out.trans ((Rc.undrew hx).mono HB7.out.size)
    have hrc := refcheckI_any L i n T q5 c5 root x (by have := HL100.out; omega) hn HTN.out (HR.out.below hbx) (HT7.out.below (Rc.undrew hx))
    rw [HE1.out] at hrc
    have HRC := Lib.hid hrc
    clear hrc
    go_wp2_with fail
    refine HRC.out.mono ?_
    rintro e x' ⟨rfl, hb⟩
    go_wp2_with fail
    exact hK Rc.dflt x' hb (fun _ _ _ _ => trivial)
  intro K hK; go_simp; refine hK _ ?_; clear hK K
  iterate 11 (refine Rc.rK rfl rfl ?_; intro K hK; apply Exists.intro; refine ⟨?_, ?_⟩; (focus (intro x hx; have d0 := Rc.cell_le hx hgl c0; have d1 := Rc.cell_le hx hgl c1; go_simp; (first | (fail) | ((try go_bits); (try go_simp); (try rfl))))); go_simp; refine hK _ ?_; clear hK K)
  refine Rc.r_str rfl rfl 23 9 _ rfl 5 Tryd.underlying9 Tryd.underlying23 Tryd.underlying5 _ _ (old) rfl (fun x hx => part_rd (lt_of_heap (Rp.row_le (Rc.undrew hx) HC7.out)) HOL.out (claim_oldc (Rp.row_le (Rc.undrew hx) HC7.out) HOL.out)) ?_; intro K hK; go_simp; refine hK _ ?_; clear hK K
  iterate 2 (refine Rc.rK rfl rfl ?_; intro K hK; apply Exists.intro; refine ⟨?_, ?_⟩; (focus (intro x hx;  go_simp; (first | (fail) | ((try go_bits); (try go_simp); (try rfl))))); go_simp; refine hK _ ?_; clear hK K)
  refine Rc.r_str rfl rfl 23 9 _ rfl 5 Tryd.underlying9 Tryd.underlying23 Tryd.underlying5 _ _ (root) rfl (fun x hx => part_rd (lt_of_heap (Rp.row_le (Rc.undrew hx) HC7.out)) HRL.out (claim_rootc (Rp.row_le (Rc.undrew hx) HC7.out) HOL.out HRL.out)) ?_; intro K hK; go_simp; refine hK _ ?_; clear hK K
  refine Rc.fK rfl rfl rfl rfl ?_ ?_
  · intro x Fs hx hle hg K hK
    have hbx := HB7.out.trans ((Rc.undrew hx).mono HB7.out.size)
    have hrc := refcheckC_any i n T q5 c5 old root x (by rw [HOL.out]; decide) hn HTN.out (HR.out.below hbx) (HT7.out.below (Rc.undrew hx))
    rw [HE2.out] at hrc
    have HRC := Lib.hid hrc
    clear hrc
    go_wp2_with fail
    refine HRC.out.mono ?_
    rintro e x' ⟨rfl, hb⟩
    go_wp2_with fail
    exact hK Rc.dflt x' hb (fun _ _ _ _ => trivial)
  intro K hK; go_simp; refine hK _ ?_; clear hK K
  iterate 2 (refine Rc.rK rfl rfl ?_; intro K hK; apply Exists.intro; refine ⟨?_, ?_⟩; (focus (intro x hx;  go_simp; (first | (fail) | ((try go_bits); (try go_simp); (try rfl))))); go_simp; refine hK _ ?_; clear hK K)
  refine Rc.done fun x Fs hx hle hg => ?_
  have HX : Hid (Below w.heap.size w x) := Lib.hid (HB7.out.trans ((Rc.undrew hx).mono HB7.out.size))
  clear hx hle hg c0 c1 c2
  go_wp2_with fail
  refine NoPanic.normal ?_
  go_wp2_with fail
  go_ret
  exact ⟨rfl, HX.out⟩
end Ref
end Go.Proofs.YtkembhonfehlbaaDoor

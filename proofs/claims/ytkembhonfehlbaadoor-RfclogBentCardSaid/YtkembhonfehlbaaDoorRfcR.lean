/- The walk of slices.Reverse on rows of sums, of any length. -/
import Derived.Test.YtkembhonfehlbaaDoorRfcV
import Derived.Test.YtkembhonfehlbaaDoorTree
import Derived.Test.YtkembhonfehlbaaDoorEqR
namespace Go.Proofs.YtkembhonfehlbaaDoor
open Go.RowKit Bits Mem Sha
namespace Ref
/-- The first k and the last k exchanged. -/
def revk (k : Nat) (O : List (List UInt8)) : List (List UInt8) := (List.range O.length).map fun i => if i < k ∨ O.length - k ≤ i then O.getD (O.length - 1 - i) [] else O.getD i []
theorem revk_length (k : Nat) (O : List (List UInt8)) : (revk k O).length = O.length := by simp [revk]
theorem revk_get (k : Nat) (O : List (List UInt8)) (i : Nat) (h : i < O.length) : (revk k O)[i]? = some (if i < k ∨ O.length - k ≤ i then O.getD (O.length - 1 - i) [] else O.getD i []) := by
  simp [revk, h]
theorem revk_zero (O : List (List UInt8)) : revk 0 O = O := by
  refine List.ext_getElem? fun i => ?_
  by_cases h : i < O.length
  · rw [revk_get 0 O i h, if_neg (by omega)]; simp [List.getD, h]
  · rw [List.getElem?_eq_none (by rw [revk_length]; omega), List.getElem?_eq_none (by omega)]
theorem revk_end (k : Nat) (O : List (List UInt8)) (h : O.length ≤ 2 * k + 1) : revk k O = O.reverse := by
  refine List.ext_getElem? fun i => ?_
  by_cases hi : i < O.length
  · rw [revk_get k O i hi, List.getElem?_reverse hi]
    by_cases hc : i < k ∨ O.length - k ≤ i
    · rw [if_pos hc]; simp [List.getD, show O.length - 1 - i < O.length by omega]
    · rw [if_neg hc, show O.length - 1 - i = i by omega]; simp [List.getD, hi]
  · rw [List.getElem?_eq_none (by rw [revk_length]; omega), List.getElem?_eq_none (by simp; omega)]
theorem revk_step (k m : Nat) (O : List (List UInt8)) (hm : m + k + 1 = O.length) (hk : k < m) : ((revk k O).set k (O.getD m [])).set m (O.getD k []) = revk (k + 1) O := by
  refine List.ext_getElem? fun i => ?_
  by_cases hi : i < O.length
  · rw [revk_get (k + 1) O i hi]
    by_cases h1 : i = m
    · subst h1
      rw [List.getElem?_set_self (by rw [List.length_set, revk_length]; omega), if_pos (by omega), show O.length - 1 - i = k by omega]
    · rw [List.getElem?_set_ne (fun e => h1 e.symm)]
      by_cases h2 : i = k
      · subst h2
        rw [List.getElem?_set_self (by rw [revk_length]; omega), if_pos (by omega), show O.length - 1 - i = m by omega]
      · rw [List.getElem?_set_ne (fun e => h2 e.symm), revk_get k O i hi]
        by_cases hc : i < k ∨ O.length - k ≤ i
        · rw [if_pos hc, if_pos (by omega)]
        · rw [if_neg hc, if_neg (by omega)]
  · rw [List.getElem?_eq_none (by rw [List.length_set, List.length_set, revk_length]; omega), List.getElem?_eq_none (by rw [revk_length]; omega)]
theorem revk_at (k : Nat) (O : List (List UInt8)) (i : Nat) (h : i < O.length) (h1 : ¬ (i < k ∨ O.length - k ≤ i)) : (revk k O).getD i [] = O.getD i [] := by
  rw [List.getD_eq_getElem?_getD, revk_get k O i h, if_neg h1]; rfl
/-- A sum stored by an operation. -/
theorem l_store {P : Program} {ops : Array Oper} {rest : List Oper} {o : Oper} {a : Act} {w w' : World} {Q : Exit → Act → World → Prop} (hgd : o.guard = none) (ty : TypeId) (x v : Operand) (ho : o.op = .store ty x v)
    (p : Addr) (hx : a.eval x = .pointer (some p)) (u : Value) (hv : a.eval v = u) (hrun : (storeVar ty p u).run P w = .ok () w')
    (h : wpList P ops Q rest (a.put o.dst undef) w') : wpList P ops Q (o :: rest) a w :=
  wpList_plain hgd fun _ hK => by
    unfold Oper.wp execOp
    simp only [ho, hx, hv, Instr.storeAt, Instr.sureAddr, Sem.run_bind, Sem.run_pure, Result.andThen_ok, hrun]
    exact hK _ _ h
theorem RdL.load0 {w : World} {L : List (List UInt8)} {g c k : Nat} (h : RdL w (.slice (some ⟨g, 0, none⟩) L.length c) L) (hk : k < L.length) : (Instr.loadAt 22 (.pointer (some ⟨g, k * 32, none⟩))).run Tryd.prog w = .ok (.agg (bysA (L.getD k []))) w := by
  obtain ⟨b, off, he, _, _, _, hr⟩ := h.load hk
  cases he
  have := hr w (Below.refl _ _)
  rwa [Nat.zero_add] at this
set_option maxRecDepth 100000 in
set_option maxHeartbeats 4000000 in
theorem rev_any (n : Nat) : RevOk n := by
  by_cases hn1 : n ≤ 1
  · exact rev_short n hn1
  · intro q c O x B hn ho
    obtain ⟨g, hq⟩ : ∃ g, q = some ⟨g, 0, none⟩ := by
      rcases ho.2.2 with ⟨_, h0⟩ | ⟨g, cap, cur, fz, hv, _⟩
      · omega
      · injection hv with h1; exact ⟨g, h1⟩
    subst hq
    have ho' := ho
    rw [← hn] at ho'
    have hcap := Rd_cap (Rd.of_ow ho'.2)
    have hnb : n ≤ 9223372036854775807 := by rw [hn] at hcap; have := hcap.2; unfold maxLen at this; omega
    clear ho'
    have HO := Lib.hid ho
    have HN := Lib.hid hn
    have hn0 : 0 < n := by omega
    obtain ⟨m0, rfl⟩ : ∃ m0, n = m0 + 1 := ⟨n - 1, by omega⟩
    clear ho hcap hn
    go_enter Tryd.func69, Tryd.ntmps69
    go_wp2_with fail
    go_loopw [2, 3] (fun a b wr => ∃ k m : Nat, a = .int .i64 k ∧ b = .int .i64 m ∧ m + k = m0 ∧ k ≤ m + 1 ∧ Hid (OwL wr B (.slice (some ⟨g, 0, none⟩) (m0 + 1) c) (revk k O)) ∧ Hid (x.grownBy wr (some g))) (fun _ b _ => (intOf b).toNat)
    case atStart => exact ⟨0, m0, rfl, rfl, rfl, by omega, Lib.hid (by rw [revk_zero]; exact HO.out), Lib.hid ⟨rfl, rfl, rfl, Nat.le_refl _, fun _ _ _ => rfl⟩⟩
    case round =>
      obtain ⟨k, m, rfl, rfl, hmk, hkm, HW, HG⟩ := hrel
      by_cases hlt : k < m
      · have hltI : (k : Int) < (m : Int) := by omega
        have hOL := HN.out
        have hrl := revk_length k O
        have hk1 : k < m0 + 1 := by omega
        have hm1 : m < m0 + 1 := by omega
        have hk1I : (k : Int) < (m0 : Int) + 1 := by omega
        have hm1I : (m : Int) < (m0 : Int) + 1 := by omega
        obtain ⟨X, hX⟩ : ∃ X, X = O.getD k [] := ⟨_, rfl⟩
        obtain ⟨Y, hY⟩ : ∃ Y, Y = O.getD m [] := ⟨_, rfl⟩
        have hw : OwL wr.drew B (.slice (some ⟨g, 0, none⟩) (revk k O).length c) (revk k O) := by rw [hrl, hOL]; exact HW.out
        have hLX := hw.rd.load0 (k := k) (by omega)
        have hLY := hw.rd.load0 (k := m) (by omega)
        rw [revk_at k O k (by omega) (by omega), ← hX] at hLX
        rw [revk_at k O m (by omega) (by omega), ← hY] at hLY
        have hX32 : X.length = 32 := by rw [hX, ← revk_at k O k (by omega) (by omega)]; exact hw.1.getD (by omega)
        have hY32 : Y.length = 32 := by rw [hY, ← revk_at k O m (by omega) (by omega)]; exact hw.1.getD (by omega)
        have hs1 := hw.store (k := k) (y := Y) (by omega) hY32
        have hw2 : OwL (wr.drew.setCells g (k * 32) (bys Y)) B (.slice (some ⟨g, 0, none⟩) ((revk k O).set k Y).length c) ((revk k O).set k Y) := by rw [List.length_set]; exact hs1.2.1
        have hs2 := hw2.store (k := m) (y := X) (by rw [List.length_set]; omega) hX32
        have HLX := Lib.hid hLX
        have HLY := Lib.hid hLY
        have HST1 := Lib.hid hs1
        have HST2 := Lib.hid hs2
        have HFIN : Hid (((revk k O).set k Y).set m X = revk (k + 1) O) := Lib.hid (by rw [hX, hY]; exact revk_step k m O (by omega) hlt)
        have HGG : Hid (x.grownBy ((wr.drew.setCells g (k * 32) (bys Y)).setCells g (m * 32) (bys X)) (some g)) := Lib.hid (by
          have h0 : x.grownBy wr.drew (some g) := ⟨HG.out.os, HG.out.tape, HG.out.output, HG.out.size, HG.out.block⟩
          exact grown_trans (grown_trans h0 hs1.2.2) hs2.2.2)
        clear hX hY hw hLX hLY hX32 hY32 hs1 hw2 hs2 hrl hOL
        go_wp2_with fail
        refine Rp.tree [0, 1, 2, 3, 4, 5, 6, 8, 9, 10] (.b 7 (.f 11 (.f 12 (.f 13 (.f 14 (.f 15 .done))))) 11 (.f 7 (.f 12 (.f 13 (.f 14 (.f 15 .done)))))) (by kernel_rfl) (by kernel_rfl) ?_
        simp only [Rp.pickN, Rp.nth]
        repeat (refine Rp.tK rfl ?_; intro K hK; apply Exists.intro; refine ⟨?_, ?_⟩; (focus (intro x; go_simp; (first | ((try go_bits); (try go_simp); (try rfl))))); go_simp; refine hK _ ?_; clear hK K)
        refine Rp.tStart ?_
        refine Rp.tB ?_ ?_
        ·
          refine Rp.tF rfl fun K hK => ?_
          go_wp2_with (refine l_load rfl _ _ rfl _ HLY.out ?_)
          refine Rp.tF rfl fun K hK => ?_
          go_wp2_with (refine l_load rfl _ _ rfl _ HLX.out ?_)
          refine Rp.tF rfl fun K hK => ?_
          go_wp2_with fail
          refine Rp.tF rfl fun K hK => ?_
          go_wp2_with (refine l_store rfl _ _ _ rfl _ rfl _ rfl HST1.out.1 ?_)
          refine Rp.tF rfl fun K hK => ?_
          go_wp2_with fail
          refine Rp.tF rfl fun K hK => ?_
          go_wp2_with (refine l_store rfl _ _ _ rfl _ rfl _ rfl HST2.out.1 ?_)
          refine Rp.tDone ?_
          refine NoPanic.normal ?_
          go_wp2_with fail
          refine ⟨⟨k + 1, m - 1, by go_num, by rw [show ((m - 1 : Nat) : Int) = (m : Int) - 1 by omega], by omega, by omega, Lib.hid (by have := HST2.out.2.1; rw [HFIN.out, List.length_set, revk_length, HN.out] at this; exact this), HGG⟩, by simp [intOf]; omega⟩
        ·
          refine Rp.tF rfl fun K hK => ?_
          go_wp2_with (refine l_load rfl _ _ rfl _ HLX.out ?_)
          refine Rp.tF rfl fun K hK => ?_
          go_wp2_with (refine l_load rfl _ _ rfl _ HLY.out ?_)
          refine Rp.tF rfl fun K hK => ?_
          go_wp2_with fail
          refine Rp.tF rfl fun K hK => ?_
          go_wp2_with (refine l_store rfl _ _ _ rfl _ rfl _ rfl HST1.out.1 ?_)
          refine Rp.tF rfl fun K hK => ?_
          go_wp2_with fail
          refine Rp.tF rfl fun K hK => ?_
          go_wp2_with (refine l_store rfl _ _ _ rfl _ rfl _ rfl HST2.out.1 ?_)
          refine Rp.tDone ?_
          refine NoPanic.normal ?_
          go_wp2_with fail
          refine ⟨⟨k + 1, m - 1, by go_num, by rw [show ((m - 1 : Nat) : Int) = (m : Int) - 1 by omega], by omega, by omega, Lib.hid (by have := HST2.out.2.1; rw [HFIN.out, List.length_set, revk_length, HN.out] at this; exact this), HGG⟩, by simp [intOf]; omega⟩
      · have hge : ¬ (k : Int) < (m : Int) := by omega
        have HE : Hid (revk k O = O.reverse) := Lib.hid (revk_end k O (by rw [HN.out]; omega))
        go_wp2_with fail
        refine bodyPost_end (results_none rfl _ _ _) rfl ?_
        exact ⟨rfl, by rw [← HE.out]; exact HW.out, HG.out⟩
end Ref
end Go.Proofs.YtkembhonfehlbaaDoor

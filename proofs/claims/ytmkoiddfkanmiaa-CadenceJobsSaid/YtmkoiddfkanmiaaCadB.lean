/- The walks of the schedule's find and get. -/
import Derived.Test.YtmkoiddfkanmiaaCadA
namespace Go.Proofs.Ytmkoiddfkanmiaa
open Go.RowKit Bits Mem Sha
namespace Cad
/-- A guarded operation that runs is as one without a guard. -/
theorem unguard16 {P : Program} {ops : Array Oper} {rest : List Oper} {o : Oper} {a : Act} {w : World} {Q : Exit → Act → World → Prop} (hw : Region.wanted o (yielded ops a.tmps) = true)
    (h : wpList P ops Q ({ o with guard := none } :: rest) a w) : wpList P ops Q (o :: rest) a w := by
  cases o
  unfold wpList at h ⊢
  rw [if_pos hw]
  split at h
  · exact h
  · rename_i h'; exact absurd rfl h'
theorem ones_length (L : List One) : (ones L).length = L.length * 3 := by
  unfold ones
  induction L with
  | nil => rfl
  | cons x L ih => simp [List.flatMap_cons, ih]; omega
theorem ones_get : ∀ (L : List One) (k : Nat) (x : One), L[k]? = some x → ∀ j, j < 3 → (ones L)[k * 3 + j]? = (oneA x).toList[j]?
  | [], _, _, h, _, _ => by simp at h
  | y :: L, 0, x, h, j, hj => by
    cases h
    unfold ones oneA
    rw [List.flatMap_cons, List.getElem?_append_left (by simp; omega)]
    simp
  | y :: L, k + 1, x, h, j, hj => by
    have := ones_get L k x (by simpa using h) j hj
    rw [← this]
    unfold ones
    rw [List.flatMap_cons, List.getElem?_append_right (by simp; omega)]
    congr 1
    simp
    omega
theorem infoOne : (Try.prog.info? 58).map (fun i => (i.zero, i.size, i.bytes)) = some (some (.agg #[.string ⟨#[]⟩, .int .i64 0, .int .i64 0]), 3, 32) := by kernel_rfl
theorem infoOneS (x : One) : (Try.prog.info? 58).map (·.size) = some (oneA x).toList.length := by
  show _ = some 3
  kernel_rfl
/-- One of a schedule's row, loaded. -/
theorem one_load {w : World} {b off c : Nat} {L : List One} {k : Nat} {x : One} (h : Rd w 3 (.slice (some ⟨b, off, none⟩) L.length c) L.length (ones L)) (hx : L[k]? = some x) :
    (Instr.loadAt 58 (.pointer (some ⟨b, off + k * 3, none⟩))).run Try.prog w = .ok (.agg (oneA x)) w := by
  obtain ⟨b', off', he, _, _, _, hc⟩ := Rd_lt h (by have := (List.getElem?_eq_some_iff.1 hx).1; omega)
  cases he
  have := run_loadAt_mid (P := Try.prog) w b (off + k * 3) 58 (oneA x).toList _ (fun j u hu => by
    have hj := (List.getElem?_eq_some_iff.1 hu).1
    have hj3 : j < 3 := hj
    rw [Nat.add_assoc]
    exact hc _ u (by rw [ones_get L k x hx j hj3]; exact hu)) Try.underlying58 rfl (infoOneS x)
  simpa using this
/-- Where an id stands: all ahead of it come before it, none behind. -/
structure Stands (L : List One) (id : List UInt8) (n : Nat) : Prop where
  le : n ≤ L.length
  low : ∀ k x, k < n → L[k]? = some x → cmpB x.id id < 0
  high : ∀ k x, n ≤ k → L[k]? = some x → 0 ≤ cmpB x.id id
def foundAt (L : List One) (id : List UInt8) (n : Nat) : Bool := match L[n]? with
  | some x => decide (cmpB x.id id = 0)
  | none => false
set_option maxRecDepth 100000 in
set_option maxHeartbeats 2000000 in
theorem bsearch_any (q : Option Addr) (c : Nat) (L : List One) (id : List UInt8) (w : World) (hL : Rd w 3 (.slice q L.length c) L.length (ones L)) (hl : L.length ≤ 1000000)
    (hm : ∀ (i j : Nat) (x y : One), i ≤ j → L[i]? = some x → L[j]? = some y → cmpB y.id id < 0 → cmpB x.id id < 0) :
    Calls Try.prog 26 #[.slice q L.length c, .string ⟨id.toArray⟩, .func (.func 27) #[] #[]] w fun e w' => ∃ n, Stands L id n ∧ e = .returned (.tuple #[.int .i64 n, .bool (foundAt L id n)]) ∧ Below w.heap.size w w' := by
  have HL := Lib.hid hL
  have HM := Lib.hid hm
  clear hL hm
  go_enter Try.func26, Try.ntmps26
  go_wp2_with fail
  go_loopw [9, 10] (fun a b wr => ∃ i j : Nat, a = .int .i64 i ∧ b = .int .i64 j ∧ i ≤ j ∧ j ≤ L.length ∧ Hid (∀ k x, k < i → L[k]? = some x → cmpB x.id id < 0) ∧ Hid (∀ k x, j ≤ k → L[k]? = some x → 0 ≤ cmpB x.id id) ∧ Hid (Below w.heap.size w wr)) (fun a b _ => (intOf b).toNat - (intOf a).toNat)
  case atStart => exact ⟨0, L.length, rfl, rfl, Nat.zero_le _, Nat.le_refl _, Lib.hid (fun k x h => by omega), Lib.hid (fun k x h hx => by have := (List.getElem?_eq_some_iff.1 hx).1; omega), Lib.hid (Below.refl _ _)⟩
  case round =>
    obtain ⟨i, j, rfl, rfl, hij, hj, HI, HJ, HB⟩ := hrel
    by_cases hlt : i < j
    · have hltI : (i : Int) < (j : Int) := by omega
      obtain ⟨h, hh⟩ : ∃ h : Nat, ((i : Int) + (j : Int)) / 2 = (h : Int) := ⟨(i + j) / 2, by omega⟩
      have hih : i ≤ h := by omega
      have hhj : h < j := by omega
      have hhl : h < L.length := by omega
      have hhI : (h : Int) < (L.length : Int) := by omega
      obtain ⟨x, hx⟩ : ∃ x, L[h]? = some x := ⟨_, List.getElem?_eq_getElem hhl⟩
      obtain ⟨b, o, hqe, hb, _, _, _⟩ := Rd_lt HL.out (by omega)
      subst hqe
      have HLD := Lib.hid (one_load (HL.out.below HB.out) hx)
      have hc := cmp1_any x id wr
      obtain ⟨z, hz⟩ : ∃ z, z = cmpB x.id id := ⟨_, rfl⟩
      rw [← hz] at hc
      have HC := Lib.hid hc
      have HZ := Lib.hid hz
      have HX := Lib.hid hx
      clear hc hz hx
      by_cases hz0 : z < 0
      · go_wp2_with (refine l_load rfl _ _ rfl _ HLD.out ?_)
        refine HC.out.mono ?_
        rintro e w2 ⟨rfl, hb2⟩
        have HB2 : Hid (Below w.heap.size w w2) := Lib.hid (HB.out.trans (hb2.mono HB.out.size))
        clear hb2
        go_wp2_with fail
        refine ⟨⟨h + 1, j, by go_num, rfl, by omega, hj, Lib.hid (fun k y hk hy => ?_), HJ, HB2⟩, by simp [intOf]; omega⟩
        exact HM.out k h y x (by omega) hy HX.out (by rw [← HZ.out]; exact hz0)
      · have HZN := Lib.hid (Int.not_lt.1 hz0)
        go_wp2_with (refine l_load rfl _ _ rfl _ HLD.out ?_)
        refine HC.out.mono ?_
        rintro e w2 ⟨rfl, hb2⟩
        have HB2 : Hid (Below w.heap.size w w2) := Lib.hid (HB.out.trans (hb2.mono HB.out.size))
        clear hb2
        go_wp2_with fail
        refine ⟨⟨i, h, rfl, by go_num, by omega, by omega, HI, Lib.hid (fun k y hk hy => Int.not_lt.1 fun hlt0 => ?_), HB2⟩, by simp [intOf]; omega⟩
        exact Int.not_lt.2 HZN.out (by rw [HZ.out]; exact HM.out h k x y hk HX.out hy hlt0)
    · obtain rfl : i = j := by omega
      have HST : Hid (Stands L id i) := Lib.hid ⟨hj, HI.out, HJ.out⟩
      have hge : ¬ (i : Int) < (i : Int) := by omega
      by_cases hil : i < L.length
      · have hilI : (i : Int) < (L.length : Int) := by omega
        obtain ⟨x, hx⟩ : ∃ x, L[i]? = some x := ⟨_, List.getElem?_eq_getElem hil⟩
        obtain ⟨b, o, hqe, hb, _, _, _⟩ := Rd_lt HL.out (by omega)
        subst hqe
        have HLD := Lib.hid (one_load (HL.out.below HB.out) hx)
        have hc := cmp1_any x id wr
        obtain ⟨z, hz⟩ : ∃ z, z = cmpB x.id id := ⟨_, rfl⟩
        rw [← hz] at hc
        have HC := Lib.hid hc
        have HF : Hid (foundAt L id i = decide (z = 0)) := Lib.hid (by unfold foundAt; rw [hx, hz])
        clear hc hz hx
        go_wp2_with (refine unguard16 (by rfl) ?_; refine l_load rfl _ _ rfl _ HLD.out ?_)
        refine HC.out.mono ?_
        rintro e w2 ⟨rfl, hb2⟩
        have HB2 : Hid (Below w.heap.size w w2) := Lib.hid (HB.out.trans (hb2.mono HB.out.size))
        clear hb2
        by_cases hz0 : z = 0
        · have HF2 : Hid (foundAt L id i = true) := Lib.hid (by rw [HF.out, decide_eq_true hz0])
          have hzI : (z == 0) = true := by rw [beq_iff_eq]; exact hz0
          clear hz0
          go_wp2_with fail
          go_ret2
          exact ⟨i, HST.out, by rw [HF2.out]; rfl, HB2.out⟩
        · have HF2 : Hid (foundAt L id i = false) := Lib.hid (by rw [HF.out, decide_eq_false hz0])
          have hzI : (z == 0) = false := by rw [beq_eq_false_iff_ne]; exact hz0
          clear hz0
          go_wp2_with fail
          go_ret2
          exact ⟨i, HST.out, by rw [HF2.out]; rfl, HB2.out⟩
      · have hilI : ¬ (i : Int) < (L.length : Int) := by omega
        have HF : Hid (foundAt L id i = false) := Lib.hid (by unfold foundAt; rw [List.getElem?_eq_none (by omega)])
        go_wp2_with fail
        go_ret2
        exact ⟨i, HST.out, by rw [HF.out]; rfl, HB.out⟩
end Cad
end Go.Proofs.Ytmkoiddfkanmiaa

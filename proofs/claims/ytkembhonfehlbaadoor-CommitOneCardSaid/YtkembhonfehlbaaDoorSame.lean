/- The walk of hmac.Same, and of custumallaw03.HmacSames. -/
import Derived.Test.YtkembhonfehlbaaDoorKeys
import Derived.Test.YtkembhonfehlbaaDoorPure
import Derived.Test.YtkembhonfehlbaaDoorPlanB
namespace Go.Proofs.YtkembhonfehlbaaDoor
open Go.RowKit Bits Mem Sha
namespace Ref
@[go_sem] theorem u8_or (a b : UInt8) : bits .or .u8 (a.toNat : Int) (b.toNat : Int) = ((a.toNat ||| b.toNat : Nat) : Int) := by
  have h1 := a.toNat_lt
  have h2 := b.toNat_lt
  show IntKind.u8.wrap ((BitVec.ofInt 8 (a.toNat : Int) ||| BitVec.ofInt 8 (b.toNat : Int)).toNat : Int) = _
  have e : (BitVec.ofInt 8 (a.toNat : Int) ||| BitVec.ofInt 8 (b.toNat : Int)).toNat = a.toNat ||| b.toNat := by
    rw [BitVec.toNat_or, BitVec.ofInt_natCast, BitVec.ofInt_natCast, BitVec.toNat_ofNat, BitVec.toNat_ofNat, Nat.mod_eq_of_lt (by omega), Nat.mod_eq_of_lt (by omega)]
  have h3 : a.toNat ||| b.toNat < 2 ^ 8 := Nat.or_lt_two_pow (by omega) (by omega)
  rw [e, IntKind.wrap_u8']
  omega
/-- What the loop has gathered after k bytes. -/
def dif (a b : List UInt8) : Nat → UInt8
  | 0 => 0
  | k + 1 => dif a b k ||| (bt a k ^^^ bt b k)
theorem u8_or_zero (x y : UInt8) : x ||| y = 0 ↔ x = 0 ∧ y = 0 := by
  constructor
  · intro h
    have h2 : x.toBitVec ||| y.toBitVec = 0#8 := by
      have := congrArg UInt8.toBitVec h
      simpa using this
    have h3 : x.toBitVec = 0#8 ∧ y.toBitVec = 0#8 := BitVec.or_eq_zero_iff.1 h2
    exact ⟨UInt8.toBitVec_inj.1 h3.1, UInt8.toBitVec_inj.1 h3.2⟩
  · rintro ⟨rfl, rfl⟩; rfl
theorem u8_xor_zero (x y : UInt8) : x ^^^ y = 0 ↔ x = y := by
  constructor
  · intro h
    have := congrArg (· ^^^ y) h
    simpa [UInt8.xor_assoc] using this
  · rintro rfl; simp
theorem dif_zero (a b : List UInt8) (k : Nat) : dif a b k = 0 ↔ ∀ i < k, bt a i = bt b i := by
  induction k with
  | zero => simp [dif]
  | succ k ih =>
    rw [dif, u8_or_zero, ih, u8_xor_zero]
    constructor
    · rintro ⟨h1, h2⟩ i hi
      by_cases h : i = k
      · rw [h]; exact h2
      · exact h1 i (by omega)
    · intro h
      exact ⟨fun i hi => h i (by omega), h k (by omega)⟩
theorem dif_same (a b : List UInt8) (h : a.length = b.length) : dif a b a.length = 0 ↔ a = b := by
  rw [dif_zero]
  constructor
  · intro hh
    refine List.ext_getElem h fun i h1 h2 => ?_
    have := hh i h1
    simpa [bt, List.getD, h1, h2] using this
  · rintro rfl i _; rfl
theorem ne_snoc (l : List UInt8) (y : UInt8) : (l == l ++ [y]) = false := by
  rw [beq_eq_false_iff_ne]
  intro h
  have := congrArg List.length h
  simp at this
theorem Ow_set {w : World} {base g n cap j : Nat} {e : TypeId} {l : List UInt8} (h : Ow w base e 1 (.slice (some ⟨g, 0, none⟩) n cap) n (bys l)) (hj : j < n) (x : UInt8) :
    w.cell? ⟨g, j, none⟩ = some (.int .u8 ((bt l j).toNat : Int)) ∧ w.frozen? ⟨g, j, none⟩ = false ∧ base ≤ g ∧
      Ow (w.setCell ⟨g, j, none⟩ (.int .u8 (x.toNat : Int))) base e 1 (.slice (some ⟨g, 0, none⟩) n cap) n (bys (l.set j x)) := by
  obtain ⟨h1, h2⟩ := h
  rw [bys_length, Nat.mul_one] at h1
  rcases h2 with ⟨hv, _⟩ | ⟨g', cap', cur, fz, hv, hb, hg, hf, hnc, hcm, hcs, ht⟩
  · cases hv
  · cases hv
    rw [Nat.mul_one] at hcs ht
    have hc : cur[j]? = some (.int .u8 ((bt l j).toNat : Int)) := by
      have := bys_get l j (by omega)
      rw [← ht, List.getElem?_take, if_pos hj] at this
      simpa [bt] using this
    refine ⟨by rw [cell_of_row w _ j _ _ _ hg]; exact hc, ?_, hb, by rw [bys_length, List.length_set]; omega, .inr ⟨g, cap, cur.setIfInBounds j (.int .u8 (x.toNat : Int)), fz, rfl, hb, ?_, ?_, hnc, hcm, by simpa using hcs, ?_⟩⟩
    · have := hf j (by omega)
      simp only [World.frozen?, hg]
      simpa using this
    · rw [setCell_eq_setRow w g j cur e fz _ hg]
      exact setRow_heap w g cur _ e fz hg
    · intro i hi
      rw [Array.size_setIfInBounds] at hi
      exact hf i hi
    · rw [Nat.mul_one, Array.toList_setIfInBounds, List.take_set, ht]
      simp [bys, List.map_set]
/-- A guarded operation that runs is as one without a guard. -/
theorem unguard {P : Program} {ops : Array Oper} {rest : List Oper} {o : Oper} {a : Act} {w : World} {Q : Exit → Act → World → Prop} (hw : Region.wanted o (yielded ops a.tmps) = true)
    (h : wpList P ops Q ({ o with guard := none } :: rest) a w) : wpList P ops Q (o :: rest) a w := by
  cases o
  unfold wpList at h ⊢
  rw [if_pos hw]
  split at h
  · exact h
  · rename_i hn; exact absurd rfl hn
theorem Ow_pos {w : World} {base n : Nat} {e : TypeId} {v : Value} {xs : List Value} (h : Ow w base e 1 v n xs) (h0 : 0 < n) : ∃ g c, v = .slice (some ⟨g, 0, none⟩) n c := by
  rcases h.2 with ⟨_, hn⟩ | ⟨g, cap, cur, fz, hv, _⟩
  · omega
  · exact ⟨g, cap, hv⟩
theorem modlen (n : Int) (m : Nat) (hm : 0 < m) (hb : m < 9223372036854775808) : ∃ j : Nat, j < m ∧ wrap64 ((IntKind.u64.wrap n).tmod (m : Int)) = (j : Int) := by
  have h1 : 0 ≤ IntKind.u64.wrap n := by rw [IntKind.wrap_u64]; omega
  have h2 : (IntKind.u64.wrap n).tmod (m : Int) = IntKind.u64.wrap n % (m : Int) := Int.tmod_eq_emod_of_nonneg h1
  have h3 : 0 ≤ IntKind.u64.wrap n % (m : Int) := Int.emod_nonneg _ (by omega)
  have h4 : IntKind.u64.wrap n % (m : Int) < (m : Int) := Int.emod_lt_of_pos _ (by omega)
  refine ⟨(IntKind.u64.wrap n % (m : Int)).toNat, by omega, ?_⟩
  rw [h2, IntWalk.wrap64_in _ (by omega)]
  omega
end Ref
end Go.Proofs.YtkembhonfehlbaaDoor

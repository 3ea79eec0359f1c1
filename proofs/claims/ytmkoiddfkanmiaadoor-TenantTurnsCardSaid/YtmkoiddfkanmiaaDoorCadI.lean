/- The walk of CadenceCounts. -/
import Derived.Test.YtmkoiddfkanmiaaDoorCadH
namespace Go.Proofs.YtmkoiddfkanmiaaDoor
open Go.RowKit Bits Mem Sha
namespace Cad
theorem modcad (n : Int) (m : Nat) (hm : 0 < m) (hb : m < 9223372036854775808) : ∃ j : Nat, j < m ∧ (IntKind.u64.wrap n).tmod (m : Int) = (j : Int) ∧ wrap64 ((IntKind.u64.wrap n).tmod (m : Int)) = (j : Int) := by
  have h1 : 0 ≤ IntKind.u64.wrap n := by rw [IntKind.wrap_u64]; omega
  have h2 : (IntKind.u64.wrap n).tmod (m : Int) = IntKind.u64.wrap n % (m : Int) := Int.tmod_eq_emod_of_nonneg h1
  have h3 : 0 ≤ IntKind.u64.wrap n % (m : Int) := Int.emod_nonneg _ (by omega)
  have h4 : IntKind.u64.wrap n % (m : Int) < (m : Int) := Int.emod_lt_of_pos _ (by omega)
  refine ⟨(IntKind.u64.wrap n % (m : Int)).toNat, by omega, by rw [h2]; omega, ?_⟩
  rw [h2]
  unfold wrap64
  omega
theorem step_due (x p : Int) (_ : 0 ≤ x) (hp : 1 ≤ p) : (p - x % p = 1 ∧ (x + 1) % p = 0 ∧ (x + 1) / p = x / p + 1) ∨ (¬ p - x % p = 1 ∧ ¬ (x + 1) % p = 0 ∧ (x + 1) / p = x / p) := by
  have h1 : 0 ≤ x % p := Int.emod_nonneg _ (by omega)
  have h2 : x % p < p := Int.emod_lt_of_pos _ (by omega)
  have h3 : x % p + p * (x / p) = x := Int.emod_add_mul_ediv x p
  by_cases h : x % p + 1 < p
  · have := (Int.ediv_emod_unique (a := x + 1) (b := p) (r := x % p + 1) (q := x / p) (by omega)).2 ⟨by omega, by omega, h⟩
    exact .inr ⟨by omega, by omega, this.1⟩
  · have := (Int.ediv_emod_unique (a := x + 1) (b := p) (r := 0) (q := x / p + 1) (by omega)).2 ⟨by rw [Int.mul_add]; omega, by omega, by omega⟩
    exact .inl ⟨by omega, this.2, this.1⟩
theorem due_one (id : List UInt8) (p x : Int) (hx : 0 ≤ x) (hx2 : x ≤ 1000000) : isDue ⟨id, p, x⟩ = ((x + 1) % p == 0) ∧ tick1 ⟨id, p, x⟩ = ⟨id, p, x + 1⟩ := by
  have h : tick1 ⟨id, p, x⟩ = ⟨id, p, x + 1⟩ := by unfold tick1; rw [if_pos (by show x < _; omega)]
  refine ⟨?_, h⟩
  unfold isDue
  rw [h]
  show ((x + 1).tmod p == 0) = _
  rw [Int.tmod_eq_emod_of_nonneg (by omega)]
theorem duesOne_length (x : One) : (dues [x]).length = if isDue x then 1 else 0 := by
  unfold dues
  cases h : isDue x <;> simp [h]
end Cad
end Go.Proofs.YtmkoiddfkanmiaaDoor

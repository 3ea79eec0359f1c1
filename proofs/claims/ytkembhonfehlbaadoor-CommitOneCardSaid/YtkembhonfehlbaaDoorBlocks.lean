/- The walk of custumallaw03.HmacBlocks. -/
import Derived.Test.YtkembhonfehlbaaDoorSame
namespace Go.Proofs.YtkembhonfehlbaaDoor
open Go.RowKit Bits Mem Sha
namespace Ref
def nul (m : Nat) : ByteArray := ⟨(List.replicate m (0 : UInt8)).toArray⟩
theorem nul_size (m : Nat) : (nul m).size = m := by simp [nul, ByteArray.size]
theorem byteCells_nul (m : Nat) : byteCells (nul m) = List.replicate m (.int .u8 0) := by simp [byteCells, nul]
theorem bys_nul (m : Nat) : bys (List.replicate m (0 : UInt8)) = List.replicate m (.int .u8 0) := by simp [bys]
theorem zeroCells_one (m : Nat) : Builtin.zeroCells #[.int .u8 0] m = (List.replicate m (Value.int .u8 0)).toArray := by
  unfold Builtin.zeroCells
  apply Array.ext
  · simp
  · intro i h1 h2
    simp [Nat.mod_one]
set_option maxRecDepth 100000 in
set_option maxHeartbeats 1000000 in
/-- append(s, make([]byte, m)...): as if a string of m noughts were appended. -/
theorem run_app_make {P : Program} {w : World} {t tn ts e ty : TypeId} {k : IntKind} {i : TypeInfo} (ht : P.underlying t = some (.slice e)) (hk : P.underlying tn = some (.int k)) (hts : P.underlying ts = some .string)
    (hi : P.info? e = some i) (hz : i.zero = some (.int .u8 0)) (hsize : i.size = 1) (hby : i.bytes = 1) (p : Option Addr) (n c m : Nat) (hm : n + m ≤ 1000000) (olds : Array Value) (hold : (Builtin.firstCells 1 n (.slice p n c)).run P w.drew = .ok olds w.drew) :
    (Builtin.append_ #[t, tn] ty #[.slice p n c, .int .i64 (m : Int)]).run P w = (Builtin.append_ #[t, ts] ty #[.slice p n c, .string (nul m)]).run P w := by
  have hs := Src.ofString (P := P) w hts (nul m)
  have h1 : (Builtin.lenOf (.string (nul m))).run P w = .ok m w := by have := hs.len w; rwa [nul_size] at this
  have h2 := hs.cells
  have h3 := hs.cellsD
  rw [nul_size, byteCells_nul] at h2 h3
  have w1 : IntKind.i64.wrap (m : Int) = (m : Int) := by rw [IntKind.wrap_i64]; omega
  have w2 : ¬ ((m : Int) < 0) := by omega
  have w3 : ¬ ((281474976710656 : Int) < (m : Int)) := by omega
  have hzc := zeroCells_one m
  have ha0 : (asInt (.int .i64 0)).run P w = .ok 0 w := rfl
  have w0 : IntKind.i64.wrap 0 = 0 := by rw [IntKind.wrap_i64]; omega
  have hz0 : Builtin.zeroCells #[.int .u8 0] 0 = #[] := by rw [zeroCells_one]; rfl
  have ha : (asInt (.int .i64 (m : Int))).run P w = .ok (m : Int) w := rfl
  by_cases hr : n + m ≤ c
  · by_cases h0 : m = 0
    · subst h0
      rw [Nat.add_zero] at hr
      simp [Builtin.append_, run_underlying ht, run_underlying hk, run_underlying hts, sizeOf, typeInfo, zeroValue, hi, hz, hsize, hby, h1, h2, h3, w1, w2, w3, hr, hzc, Value.cells, ha, ha0, w0, hz0]
    · simp [Builtin.append_, run_underlying ht, run_underlying hk, run_underlying hts, sizeOf, typeInfo, zeroValue, hi, hz, hsize, hby, h1, h2, h3, w1, w2, w3, hr, hzc, h0, Value.cells, ha, ha0, w0, hz0]
  · have h63 : ¬ (9223372036854775807 < ((n : Int) + (m : Int))) := by omega
    have hf := growslice_fits (need := n + m) (old := c) (bytes := 1) (by omega) (by omega)
    have h48 : ¬ (281474976710656 < Builtin.nextslicecap (n + m) c) := by omega
    by_cases h0 : m = 0
    · subst h0
      rw [Nat.add_zero] at hr h48
      have h630 : ¬ (9223372036854775807 < (n : Int)) := by omega
      simp [Builtin.append_, run_underlying ht, run_underlying hk, run_underlying hts, sizeOf, typeInfo, zeroValue, hi, hz, hsize, hby, h1, h2, h3, w1, w2, w3, hr, hzc, Value.cells, ha, ha0, w0, hz0, h630, h48, Question.forced, hold]
    · simp [Builtin.append_, run_underlying ht, run_underlying hk, run_underlying hts, sizeOf, typeInfo, zeroValue, hi, hz, hsize, hby, h1, h2, h3, w1, w2, w3, hr, hzc, h0, Value.cells, ha, ha0, w0, hz0, h63, h48, Question.forced, hold]
end Ref
end Go.Proofs.YtkembhonfehlbaaDoor

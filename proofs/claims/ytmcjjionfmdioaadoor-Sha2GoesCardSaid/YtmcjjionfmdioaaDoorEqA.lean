/- Two arrays of 32 bytes held against each other. -/
import Derived.Test.YtmcjjionfmdioaaDoorMacP
import Derived.Test.YtmcjjionfmdioaaDoorFew
import Derived.Laws.StructEq
import Derived.Stop.BytesEq
namespace Go.Proofs.YtmcjjionfmdioaaDoor
open Go.RowKit Bits Mem Sha
namespace Ref
theorem size_u8 (w : World) : (sizeOf 5).run Tryd.prog w = .ok 1 w := by
  obtain ⟨i0, h1, h2⟩ : ∃ i0, Tryd.prog.info? 5 = some i0 ∧ i0.size = 1 := by
    have : (Tryd.prog.info? 5).map (·.size) = some 1 := by kernel_rfl
    obtain ⟨i0, h1, h2⟩ := Option.map_eq_some_iff.1 this
    exact ⟨i0, h1, h2⟩
  simp [sizeOf, typeInfo, h1, h2]
theorem guard32 : Tryd.prog.eqGuardType Tryd.prog.depth 25 = false := by kernel_rfl
@[go_sem] theorem run_guard32 (op : BinOp) (x y : Operand) (xs ys : Array Value) (w : World) : (eqGuard op 25 x y (.agg xs) (.agg ys)).run Tryd.prog w = .ok () w := run_eqGuard_agg (P := Tryd.prog) w op 25 x y xs ys guard32
@[go_sem] theorem run_equal32 (a b : List UInt8) (w : World) (ha : a.length = 32) (hb : b.length = 32) : (Op.equalIn 10000 25 (.agg (bysA a)) (.agg (bysA b))).run Tryd.prog w = .ok (a == b) w :=
  run_equalIn_bytes (P := Tryd.prog) w 9998 25 5 32 Tryd.underlying25 Tryd.underlying5 size_u8 a b ha hb
attribute [go_sem] sha_length hmac_length
end Ref
end Go.Proofs.YtmcjjionfmdioaaDoor

/- The walks of Hash.Len, Hash.Fork and custumallaw01.Sha2Forks. -/
import Derived.Test.YtkembhonfehlbaaDoorSizes
import Derived.Test.YtkembhonfehlbaaDoorPlan
import Derived.Test.YtkembhonfehlbaaDoorEqA
namespace Go.Proofs.YtkembhonfehlbaaDoor
open Go.RowKit Bits Mem Sha
namespace Ref
theorem build_hash8 (a0 a1 a2 a3 a4 a5 a6 a7 : BitVec 32) (p : Option Addr) (k c : Nat) (m : Int) : Tryd.prog.built 138 [(0, .agg (cells [a0, a1, a2, a3, a4, a5, a6, a7])), (1, .slice p k c), (2, .int .i64 m)] = some (cells [a0, a1, a2, a3, a4, a5, a6, a7] ++ #[.slice p k c, .int .i64 m]) := by kernel_rfl
theorem build_hash (W : List (BitVec 32)) (hW : W.length = 8) (p : Option Addr) (k c : Nat) (m : Int) : Tryd.prog.built 138 [(0, .agg (cells W)), (1, .slice p k c), (2, .int .i64 m)] = some (cells W ++ #[.slice p k c, .int .i64 m]) :=
  match W, hW with
  | [a0, a1, a2, a3, a4, a5, a6, a7], _ => build_hash8 a0 a1 a2 a3 a4 a5 a6 a7 p k c m
namespace Rp2
open Rp
theorem Le_drew {w x : World} (h : Rp.Le w.drew x) : Rp.Le w x := ⟨h.os, h.tape, h.output, h.size, h.block⟩
theorem s_load {P : Program} {ops : Array Oper} {Q : Exit → Act → World → Prop} {tail : List Oper} {a : Act} {w : World} {o : Oper} {r : List (Oper × Bool)} (hw : Region.wanted o (yielded ops a.tmps) = true) (ty : TypeId) (y : Operand) (ho : o.op = .load ty y) (v : Value)
    (hrun : ∀ x, Rp.Le w x → (Instr.loadAt ty (a.eval y)).run P x = .ok v x)
    (h : ∀ K : Act → Prop, (∀ a, Rp.wpPerm P ops Q tail r a w → K a) → K (a.put o.dst v)) : Rp.wpPerm P ops Q tail ((o, true) :: r) a w :=
  Rp.s_run v hw (fun x hx => by simp [execOp, ho, hrun x hx]) h
theorem s_build {P : Program} {ops : Array Oper} {Q : Exit → Act → World → Prop} {tail : List Oper} {a : Act} {w : World} {o : Oper} {r : List (Oper × Bool)} (hw : Region.wanted o (yielded ops a.tmps) = true) (t : TypeId) (parts : Array (Nat × Operand)) (ho : o.op = .build t parts) (cs : Array Value)
    (hb : P.built t (parts.map fun (i, x) => (i, a.eval x)).toList = some cs)
    (h : ∀ K : Act → Prop, (∀ a, Rp.wpPerm P ops Q tail r a w → K a) → K (a.put o.dst (.agg cs))) : Rp.wpPerm P ops Q tail ((o, true) :: r) a w :=
  Rp.s_run (.agg cs) hw (fun x _ => by unfold execOp; simp only [ho, Sem.run_bind, run_build x t _ cs hb, Result.andThen_ok, Sem.run_pure]) h
end Rp2
end Ref
end Go.Proofs.YtkembhonfehlbaaDoor

/- The walks of the schedule's comparison, New and Now. -/
import Derived.Test.YtmonkggoilhngaaGreatDoorGConcW
import Derived.Test.YtmonkggoilhngaaGreatDoorConQ
import Derived.Test.YtmonkggoilhngaaGreatDoorKpM
import Derived.Lib.Bytealg
import Derived.Laws.Externs
namespace Go.Proofs.YtmonkggoilhngaaGreatDoor
open Go.RowKit Bits Mem
namespace Cad
/-- How two strings stand to each other. -/
def cmpB (a b : List UInt8) : Int := Lib.compareBytes a b
/-- One of a schedule. -/
structure One where
  id : List UInt8
  period : Int
  age : Int
def oneA (x : One) : Array Value := #[.string ⟨x.id.toArray⟩, .int .i64 x.period, .int .i64 x.age]
def ones (L : List One) : List Value := L.flatMap fun x => [.string ⟨x.id.toArray⟩, .int .i64 x.period, .int .i64 x.age]
end Cad
end Go.Proofs.YtmonkggoilhngaaGreatDoor
/- The walks of the schedule's find and get. -/
namespace Go.Proofs.YtmonkggoilhngaaGreatDoor
open Go.RowKit Bits Mem Sha
namespace Cad
/-- A guarded operation that runs is as one without a guard. -/
theorem unguard16 {P : Program} {ops : Array Oper} {rest : List Oper} {o : Oper} {a : Act} {w : World} {Q : Exit → Act → World → Prop} (hw : Region.wanted o (yielded ops a.tmps) = true)
    (h : wpList P ops Q ({ o with guard := none } :: rest) a w) : wpList P ops Q (o :: rest) a w := by
  cases o
  unfold wpList at h ⊢
  rw [if_pos hw]
  split at h
  · exact h
  · rename_i h'; exact absurd rfl h'
theorem ones_length (L : List One) : (ones L).length = L.length * 3 := by
  unfold ones
  induction L with
  | nil => rfl
  | cons x L ih => simp [List.flatMap_cons, ih]; omega
theorem ones_get : ∀ (L : List One) (k : Nat) (x : One), L[k]? = some x → ∀ j, j < 3 → (ones L)[k * 3 + j]? = (oneA x).toList[j]?
  | [], _, _, h, _, _ => by simp at h
  | y :: L, 0, x, h, j, hj => by
    cases h
    unfold ones oneA
    rw [List.flatMap_cons, List.getElem?_append_left (by simp; omega)]
    simp
  | y :: L, k + 1, x, h, j, hj => by
    have := ones_get L k x (by simpa using h) j hj
    rw [← this]
    unfold ones
    rw [List.flatMap_cons, List.getElem?_append_right (by simp; omega)]
    congr 1
    simp
    omega
/-- Where an id stands: all ahead of it come before it, none behind. -/
structure Stands (L : List One) (id : List UInt8) (n : Nat) : Prop where
  le : n ≤ L.length
  low : ∀ k x, k < n → L[k]? = some x → cmpB x.id id < 0
  high : ∀ k x, n ≤ k → L[k]? = some x → 0 ≤ cmpB x.id id
def foundAt (L : List One) (id : List UInt8) (n : Nat) : Bool := match L[n]? with
  | some x => decide (cmpB x.id id = 0)
  | none => false
end Cad
end Go.Proofs.YtmonkggoilhngaaGreatDoor
/- The walks of the schedule's find and get. -/
namespace Go.Proofs.YtmonkggoilhngaaGreatDoor
open Go.RowKit Bits Mem Sha
namespace Cad
/-- What find leans on: those that come before an id stand in front. -/
def Mono (L : List One) (id : List UInt8) : Prop := ∀ (i j : Nat) (x y : One), i ≤ j → L[i]? = some x → L[j]? = some y → cmpB y.id id < 0 → cmpB x.id id < 0
end Cad
end Go.Proofs.YtmonkggoilhngaaGreatDoor
/- The walk of the schedule's Tick. -/
namespace Go.Proofs.YtmonkggoilhngaaGreatDoor
open Go.RowKit Bits Mem Sha
namespace Cad
def most : Int := 9223372036854775807
def tick1 (x : One) : One := { x with age := if x.age < 9223372036854775807 then x.age + 1 else x.age }
def isDue (x : One) : Bool := (tick1 x).age.tmod x.period == 0
def dues (L : List One) : List (List UInt8) := (L.filter isDue).map (·.id)
def ticked (k : Nat) (L : List One) : List One := (L.take k).map tick1 ++ L.drop k
theorem ticked_length (k : Nat) (L : List One) : (ticked k L).length = L.length := by simp [ticked]; omega
theorem ticked_at {k : Nat} {L : List One} {x : One} (hx : L[k]? = some x) : (ticked k L)[k]? = some x := by
  have hk := (List.getElem?_eq_some_iff.1 hx).1
  unfold ticked
  rw [List.getElem?_append_right (by simp; omega)]
  simp [Nat.min_eq_left (Nat.le_of_lt hk)]
  simpa using hx
theorem ticked_succ {k : Nat} {L : List One} {x : One} (hx : L[k]? = some x) : ticked (k + 1) L = (ticked k L).set k (tick1 x) := by
  have hk := (List.getElem?_eq_some_iff.1 hx).1
  refine List.ext_getElem? fun i => ?_
  unfold ticked
  rw [List.getElem?_set]
  by_cases h1 : i < k
  · rw [List.getElem?_append_left (by simp; omega), if_neg (by omega), List.getElem?_append_left (by simp; omega)]
    simp [h1, show i < k + 1 by omega]
  · by_cases h2 : i = k
    · subst h2
      rw [List.getElem?_append_left (by simp; omega), if_pos rfl, if_pos (by simp; omega)]
      simp [hx]
    · rw [List.getElem?_append_right (by simp; omega), if_neg (fun e => h2 e.symm), List.getElem?_append_right (by simp; omega)]
      simp only [List.length_map, List.length_take, List.getElem?_drop]
      congr 1
      omega
theorem dues_succ {k : Nat} {L : List One} {x : One} (hx : L[k]? = some x) : dues (L.take (k + 1)) = dues (L.take k) ++ (if isDue x then [x.id] else []) := by
  unfold dues
  rw [List.take_add_one, hx, List.filter_append, List.map_append]
  congr 1
  simp only [Option.toList_some, List.filter_cons, List.filter_nil]
  split <;> rfl
theorem oneA_getD (x : One) : (oneA x).toList = [.string ⟨x.id.toArray⟩, .int .i64 x.period, .int .i64 x.age] := rfl
end Cad
end Go.Proofs.YtmonkggoilhngaaGreatDoor
/- The walk of the schedule's Tick. -/
namespace Go.Proofs.YtmonkggoilhngaaGreatDoor
open Go.RowKit Bits Mem Sha
namespace Mem
theorem Kp.of_grown {w w' : World} {row : Option Nat} (h : w.grownBy w' row) : Kp (fun k => row = some k) w w' :=
  ⟨h.os, h.tape, h.output, h.size, fun k hk hn => h.block k hk (fun e => hn e.symm)⟩
theorem Kp.weak {S T : Nat → Prop} {w w' : World} (h : Kp S w w') (hT : ∀ k, S k → T k) : Kp T w w' := ⟨h.os, h.tape, h.output, h.size, fun k hk hn => h.block k hk (fun hs => hn (hT k hs))⟩
end Mem
namespace Cad
def strsC (T : List (List UInt8)) : List Value := T.map fun t => .string ⟨t.toArray⟩
theorem strsC_append (T U : List (List UInt8)) : strsC (T ++ U) = strsC T ++ strsC U := by simp [strsC]
theorem strsC_one (T : List (List UInt8)) : ∀ u ∈ strsC T, u.oneCell' = true := by
  intro u hu; simp [strsC] at hu; obtain ⟨x, _, rfl⟩ := hu; rfl
theorem infoStrC : (Tryz.prog.info? 9).map (fun i => (i.zero, i.size, i.bytes)) = some (some (.string ⟨#[]⟩), 1, 16) := by kernel_rfl
theorem parts3C {t : TypeId} {z : Value} {s b : Nat} (h : (Tryz.prog.info? t).map (fun i => (i.zero, i.size, i.bytes)) = some (some z, s, b)) : ∃ i0, Tryz.prog.info? t = some i0 ∧ i0.zero = some z ∧ i0.size = s ∧ i0.bytes = b := by
  obtain ⟨i0, h1, h2⟩ := Option.map_eq_some_iff.1 h
  have h2 := Prod.mk.inj h2
  have h3 := Prod.mk.inj h2.2
  exact ⟨i0, h1, h2.1, h3.1, h3.2⟩
theorem dues_len (L : List One) : (dues L).length ≤ L.length := by
  unfold dues
  rw [List.length_map]
  exact List.length_filter_le _ _
end Cad
end Go.Proofs.YtmonkggoilhngaaGreatDoor
/- The walks of the schedule's Add, on an empty schedule, and of Next. -/
namespace Go.Proofs.YtmonkggoilhngaaGreatDoor
open Go.RowKit Bits Mem Sha
namespace Cad
end Cad
end Go.Proofs.YtmonkggoilhngaaGreatDoor
/- The walk of the schedule's Next, on a schedule of one. -/
namespace Go.Proofs.YtmonkggoilhngaaGreatDoor
open Go.RowKit Bits Mem Sha
namespace Cad
theorem mono_one (x : One) : Mono [x] x.id := by
  intro i j a b hij ha hb h
  have hi := (List.getElem?_eq_some_iff.1 ha).1
  have hj := (List.getElem?_eq_some_iff.1 hb).1
  have h1 : i = 0 := by simp at hi; omega
  have h2 : j = 0 := by simp at hj; omega
  subst h1 h2
  rw [ha] at hb
  cases hb
  exact h
theorem stands_one {x : One} {n : Nat} (hs : cmpB x.id x.id = 0) (h : Stands [x] x.id n) : n = 0 := by
  rcases Nat.eq_zero_or_pos n with h0 | h0
  · exact h0
  · have := h.low 0 x h0 rfl
    omega
theorem found_one {x : One} (hs : cmpB x.id x.id = 0) : foundAt [x] x.id 0 = true := by
  show decide (cmpB x.id x.id = 0) = true
  rw [hs]; rfl
end Cad
end Go.Proofs.YtmonkggoilhngaaGreatDoor
/- The walk of beats: the schedule at work, whatever the input. -/
namespace Go.Proofs.YtmonkggoilhngaaGreatDoor
open Go.RowKit Bits Mem Sha
namespace Cad
end Cad
end Go.Proofs.YtmonkggoilhngaaGreatDoor
/- The walk of CadenceCounts. -/
namespace Go.Proofs.YtmonkggoilhngaaGreatDoor
open Go.RowKit Bits Mem Sha
namespace Cad
theorem modcad (n : Int) (m : Nat) (hm : 0 < m) (hb : m < 9223372036854775808) : ∃ j : Nat, j < m ∧ (IntKind.u64.wrap n).tmod (m : Int) = (j : Int) ∧ wrap64 ((IntKind.u64.wrap n).tmod (m : Int)) = (j : Int) := by
  have h1 : 0 ≤ IntKind.u64.wrap n := by rw [IntKind.wrap_u64]; omega
  have h2 : (IntKind.u64.wrap n).tmod (m : Int) = IntKind.u64.wrap n % (m : Int) := Int.tmod_eq_emod_of_nonneg h1
  have h3 : 0 ≤ IntKind.u64.wrap n % (m : Int) := Int.emod_nonneg _ (by omega)
  have h4 : IntKind.u64.wrap n % (m : Int) < (m : Int) := Int.emod_lt_of_pos _ (by omega)
  refine ⟨(IntKind.u64.wrap n % (m : Int)).toNat, by omega, by rw [h2]; omega, ?_⟩
  rw [h2]
  unfold wrap64
  omega
theorem step_due (x p : Int) (_ : 0 ≤ x) (hp : 1 ≤ p) : (p - x % p = 1 ∧ (x + 1) % p = 0 ∧ (x + 1) / p = x / p + 1) ∨ (¬ p - x % p = 1 ∧ ¬ (x + 1) % p = 0 ∧ (x + 1) / p = x / p) := by
  have h1 : 0 ≤ x % p := Int.emod_nonneg _ (by omega)
  have h2 : x % p < p := Int.emod_lt_of_pos _ (by omega)
  have h3 : x % p + p * (x / p) = x := Int.emod_add_mul_ediv x p
  by_cases h : x % p + 1 < p
  · have := (Int.ediv_emod_unique (a := x + 1) (b := p) (r := x % p + 1) (q := x / p) (by omega)).2 ⟨by omega, by omega, h⟩
    exact .inr ⟨by omega, by omega, this.1⟩
  · have := (Int.ediv_emod_unique (a := x + 1) (b := p) (r := 0) (q := x / p + 1) (by omega)).2 ⟨by rw [Int.mul_add]; omega, by omega, by omega⟩
    exact .inl ⟨by omega, this.2, this.1⟩
theorem due_one (id : List UInt8) (p x : Int) (hx : 0 ≤ x) (hx2 : x ≤ 1000000) : isDue ⟨id, p, x⟩ = ((x + 1) % p == 0) ∧ tick1 ⟨id, p, x⟩ = ⟨id, p, x + 1⟩ := by
  have h : tick1 ⟨id, p, x⟩ = ⟨id, p, x + 1⟩ := by unfold tick1; rw [if_pos (by show x < _; omega)]
  refine ⟨?_, h⟩
  unfold isDue
  rw [h]
  show ((x + 1).tmod p == 0) = _
  rw [Int.tmod_eq_emod_of_nonneg (by omega)]
theorem duesOne_length (x : One) : (dues [x]).length = if isDue x then 1 else 0 := by
  unfold dues
  cases h : isDue x <;> simp [h]
end Cad
end Go.Proofs.YtmonkggoilhngaaGreatDoor

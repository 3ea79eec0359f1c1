/- Links that stand on each other, by what is told: plain. -/
import Derived.Test.YtmcjjionfmdioaaDoorLinks
namespace Go.Proofs.YtmcjjionfmdioaaDoor
namespace Ref
def prv (a : List UInt8) (L : List (List UInt8)) : Nat → List UInt8
  | 0 => a
  | k + 1 => L.getD k []
def okAt (id : List UInt8) (f : Int) (a : List UInt8) (R L : List (List UInt8)) (k : Nat) : Bool := L.getD k [] == nextLink id (ep f k) (R.getD k []) (prv a L k)
def chk (id : List UInt8) (f : Int) (a : List UInt8) (R L : List (List UInt8)) : Int :=
  if R.length = L.length then (if (List.range L.length).all (okAt id f a R L) = true then 0 else 17) else 1
section
variable {id : List UInt8} {f : Int} {a : List UInt8} {R L : List (List UInt8)}
theorem chk_len (h : R.length ≠ L.length) : chk id f a R L = 1 := by unfold chk; rw [if_neg h]
theorem chk_bad (h : R.length = L.length) {k : Nat} (hk : k < L.length) (hb : okAt id f a R L k = false) : chk id f a R L = 17 := by
  unfold chk
  rw [if_pos h, if_neg]
  intro h'
  have := List.all_eq_true.1 h' k (List.mem_range.2 hk)
  rw [hb] at this; cases this
theorem chk_ok (h : R.length = L.length) (hb : ∀ k, k < L.length → okAt id f a R L k = true) : chk id f a R L = 0 := by
  unfold chk
  rw [if_pos h, if_pos]
  exact List.all_eq_true.2 fun k hk => hb k (List.mem_range.1 hk)
theorem lks_getD (n k : Nat) (hk : k < n) : (lks id f a R n).getD k [] = lk id f a R (k + 1) := by simp [lks, List.getD, hk]
theorem chk_lks : chk id f a R (lks id f a R R.length) = 0 := by
  refine chk_ok (by rw [lks_length]) fun k hk => ?_
  rw [lks_length] at hk
  unfold okAt
  rw [lks_getD _ _ hk]
  have : prv a (lks id f a R R.length) k = lk id f a R k := by
    cases k with
    | zero => rfl
    | succ k => exact lks_getD _ _ (by omega)
  rw [this]
  simp [lk]
theorem prv_length (ha : a.length = 32) (hL : All32 L) : ∀ {k : Nat}, k ≤ L.length → (prv a L k).length = 32
  | 0, _ => ha
  | k + 1, hk => hL.getD (by omega)
end
end Ref
end Go.Proofs.YtmcjjionfmdioaaDoor

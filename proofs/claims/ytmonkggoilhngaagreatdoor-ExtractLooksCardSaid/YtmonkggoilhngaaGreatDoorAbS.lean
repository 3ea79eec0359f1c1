/- What is reckoned at the program's tables alone: it leaves all that is old. Plain; no condition. -/
import Derived.Test.YtmonkggoilhngaaGreatDoorGAbQ
import Derived.Test.YtmonkggoilhngaaGreatDoorGStdA
namespace Go.Proofs.YtmonkggoilhngaaGreatDoor
open Go.RowKit Bits Mem Sha
namespace Ab
def tabS : S := fun g => (gOf gtL g).map fun l => (false, l)
theorem tabS_mem : ∀ x ∈ gtL.l, gOf gtL x.1 = some x.2 := by
  have h : (gtL.l.all fun x => decide (gOf gtL x.1 = some x.2)) = true := by kernel_rfl
  exact fun x hx => of_decide_eq_true (List.all_eq_true.1 h x hx)
def kint : K → Bool
  | .int _ => true
  | _ => false
theorem gtL_int : ∀ x ∈ gtL.l, ∀ κ ∈ x.2, kint κ = true := by
  have h : (gtL.l.all fun x => x.2.all kint) = true := by kernel_rfl
  exact fun x hx κ hκ => List.all_eq_true.1 (List.all_eq_true.1 h x hx) κ hκ
theorem CT.ints {σ σ' : S} {C : List Value} {l : List K} (hl : ∀ κ ∈ l, kint κ = true) (h : CT σ C l) : CT σ' C l := by
  refine ⟨h.1, fun i κ hi => ?_⟩
  obtain ⟨v, h1, h2⟩ := h.2 i κ hi
  have := hl κ (List.mem_of_getElem? hi)
  cases κ <;> first | exact ⟨v, h1, h2⟩ | cases this
theorem Go1.old {σ' : S} {w w' : World} (h : Go1 tabS σ' w w') : Below w.heap.size w w' :=
  ⟨h.os, h.tape, h.output, h.size, fun b hb => h.kept b hb (fun l e => by
    unfold tabS at e
    obtain ⟨_, _, h2⟩ := Option.map_eq_some_iff.1 e
    cases h2)⟩
theorem WT.past {w w' : World} (h : WT gtL tabS w) (hb : Below w.heap.size w w') : WT gtL tabS w' := h.below ⟨hb.os, hb.tape, hb.output, hb.size, hb.block⟩
theorem b32_rep : b32 = List.replicate 32 B8 := rfl
theorem CT_bys {σ : S} {l : List UInt8} {n : Nat} (h : l.length = n) : CT σ (bys l) (List.replicate n B8) := by
  refine ⟨by rw [bys_length, List.length_replicate, h], fun i κ hi => ?_⟩
  rw [List.getElem?_replicate] at hi
  split at hi
  · rename_i hlt
    cases hi
    exact ⟨_, bys_get l i (by omega), _, rfl, by show (0 : Int) ≤ _; omega, by have := (l.getD i 0).toNat_lt; show _ ≤ (255 : Int); omega⟩
  · cases hi
theorem VT_bys {σ : S} {l : List UInt8} (h : l.length = 32) : VT σ (.agg (bysA l)) (.agg b32) := ⟨bysA l, rfl, by rw [b32_rep]; exact CT_bys h⟩
theorem VTs.mk3 {σ : S} {u v x : Value} {τ ρ κ : T} (h : VT σ u τ) (h' : VT σ v ρ) (h2 : VT σ x κ) : VTs σ #[u, v, x].toList [τ, ρ, κ] := ⟨rfl, fun i τ' hi => by
  match i with
  | 0 => cases hi; exact ⟨u, rfl, h⟩
  | 1 => cases hi; exact ⟨v, rfl, h'⟩
  | 2 => cases hi; exact ⟨x, rfl, h2⟩
  | i + 3 => simp at hi⟩
theorem under0 {w : World} (h0 : WT gtL tabS w) {a b : List UInt8} (ha : a.length = 32) (hb : b.length = 32) (n : Int) (h1 : -9223372036854775808 ≤ n) (h2 : n ≤ 9223372036854775807) :
    Calls Tryz.prog 70 #[.agg (bysA a), .agg (bysA b), .int .i64 n] w fun e w' => ∃ z, e = .returned (.bool z) ∧ Below w.heap.size w w' := by
  refine (kunder_calls h0 (VTs.mk3 (VT_bys ha) (VT_bys hb) ⟨n, rfl, h1, h2⟩)).2.mono ?_
  rintro _ w' ⟨_, rfl, σ', g1, g2, z, rfl⟩
  exact ⟨z, rfl, g1.old⟩
end Ab
end Go.Proofs.YtmonkggoilhngaaGreatDoor

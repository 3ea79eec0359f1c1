/- The walks of custumalref01.Few and custumalref01.All. Conditions: counts and lengths that fit. -/
import Derived.Test.YtmkoiddfkanmiaaSt
import Derived.Test.YtmkoiddfkanmiaaShaF
namespace Go.Proofs.Ytmkoiddfkanmiaa
open Go.RowKit Bits Mem Sha
namespace Ref
/-- A slice of bytes that came in: what it reads as; an empty one may point anywhere. -/
def Raw (w : World) (q : Option Addr) (n c : Nat) (l : List UInt8) : Prop := Rd w 1 (.slice q n c) n (bys l) ∨ (n = 0 ∧ c = 0 ∧ l = [])
theorem Raw.below {w w' : World} {q : Option Addr} {n c : Nat} {l : List UInt8} (h : Raw w q n c l) (hb : Below w.heap.size w w') : Raw w' q n c l := h.imp (fun h => h.below hb) id
theorem Raw.cap {w : World} {q : Option Addr} {n c : Nat} {l : List UInt8} (h : Raw w q n c l) : n ≤ c ∧ c ≤ maxLen := by
  rcases h with h | ⟨rfl, rfl, rfl⟩
  · exact Rd_cap h
  · exact ⟨Nat.le_refl _, Nat.zero_le _⟩
theorem Raw.src {P : Program} {t e' : TypeId} {w : World} {q : Option Addr} {n c k : Nat} {l : List UInt8} (hk : P.underlying t = some (.slice e')) (h : Raw w q n c l) (hkn : k ≤ n) : Src P 1 t (.slice q k c) k (bys (l.take k)) w := by
  rcases h with h | ⟨rfl, rfl, rfl⟩
  · exact Rd.src hk (Rd_take h hkn) (bys_one _)
  · obtain rfl : k = 0 := by omega
    cases q with
    | none => exact Src.ofNil w hk 0
    | some a => exact Src.ofSlice w hk a 0 0 [] rfl (fun j u hu => by simp at hu) (fun u hu => by simp at hu)
/-- A slice of such slices. -/
def RawParts (w : World) (v : Value) (L : List (List UInt8)) : Prop :=
  ∃ vs : List Value, Rd w 1 v L.length vs ∧ ∀ i, i < L.length → ∃ q c, vs[i]? = some (.slice q (L.getD i []).length c) ∧ Raw w q (L.getD i []).length c (L.getD i [])
/-- No more than some parts, of no more than some bytes each. -/
def few (L : List (List UInt8)) (m s : Nat) : List (List UInt8) := (L.take m).map (·.take s)
theorem few_length (L : List (List UInt8)) (m s : Nat) : (few L m s).length = min m L.length := by simp [few]
theorem few_succ (L : List (List UInt8)) (k s : Nat) (h : k < L.length) : few L (k + 1) s = few L k s ++ [(L.getD k []).take s] := by
  unfold few; rw [List.take_succ_eq_append_getElem h, List.map_append]; simp [List.getD, h]
theorem flat_le (s : Nat) : ∀ (M : List (List UInt8)), (∀ x ∈ M, x.length ≤ s) → M.flatten.length ≤ M.length * s
  | [], _ => by simp
  | x :: M, h => by
    have h1 := flat_le s M (fun y hy => h y (List.mem_cons_of_mem _ hy))
    have h2 := h x List.mem_cons_self
    rw [List.flatten_cons, List.length_append, List.length_cons, Nat.add_mul]
    omega
theorem few_flat (L : List (List UInt8)) (m s : Nat) : (few L m s).flatten.length ≤ m * s := by
  refine Nat.le_trans (flat_le s _ (fun x hx => ?_)) (Nat.mul_le_mul_right s (by rw [few_length]; exact Nat.min_le_left _ _))
  unfold few at hx
  obtain ⟨y, _, rfl⟩ := List.mem_map.1 hx
  rw [List.length_take]; exact Nat.min_le_left _ _
theorem parts3 {t : TypeId} {z : Value} {s b : Nat} (h : (Try.prog.info? t).map (fun i => (i.zero, i.size, i.bytes)) = some (some z, s, b)) : ∃ i0, Try.prog.info? t = some i0 ∧ i0.zero = some z ∧ i0.size = s ∧ i0.bytes = b := by
  obtain ⟨i0, h1, h2⟩ := Option.map_eq_some_iff.1 h
  simp only [Prod.mk.injEq] at h2
  exact ⟨i0, h1, h2.1, h2.2.1, h2.2.2⟩
theorem flatten_len (L : List (List UInt8)) (k : Nat) (h : k < L.length) : ((L.take k).flatten).length + (L.getD k []).length ≤ L.flatten.length := flatten_take_le L k h
end Ref
end Go.Proofs.Ytmkoiddfkanmiaa

/- Slices of [32]byte: cut, read. -/
import Derived.Test.YtmkoiddfkanmiaaDoorConcW
namespace Go.Proofs.YtmkoiddfkanmiaaDoor
open Go.RowKit Bits Mem Sha
namespace Ref
def All32 (L : List (List UInt8)) : Prop := ∀ x ∈ L, x.length = 32
section
variable {L M : List (List UInt8)}
theorem All32.flat : ∀ {L : List (List UInt8)}, All32 L → L.flatten.length = L.length * 32
  | [], _ => rfl
  | x :: L, h => by
    have h1 := h x (by simp)
    have h2 := All32.flat (L := L) (fun y hy => h y (by simp [hy]))
    simp only [List.flatten_cons, List.length_append, List.length_cons, h1, h2]; omega
theorem All32.take (h : All32 L) (k : Nat) : All32 (L.take k) := fun x hx => h x (List.mem_of_mem_take hx)
theorem All32.getD (h : All32 L) {k : Nat} (hk : k < L.length) : (L.getD k []).length = 32 := by
  have : L.getD k [] = L[k] := by simp [List.getD, hk]
  rw [this]; exact h _ (List.getElem_mem hk)
theorem All32.append (h : All32 L) (h' : All32 M) : All32 (L ++ M) := fun x hx => by
  rcases List.mem_append.1 hx with hx | hx
  · exact h x hx
  · exact h' x hx
theorem All32.one {x : List UInt8} (h : x.length = 32) : All32 [x] := fun y hy => by simp at hy; rw [hy]; exact h
theorem flat_get : ∀ {L : List (List UInt8)} (k : Nat), All32 L → k < L.length → ∀ j, j < 32 → L.flatten[k * 32 + j]? = (L.getD k [])[j]?
  | x :: L, 0, h, _, j, hj => by
    have := h x (by simp)
    simp only [List.flatten_cons, Nat.zero_mul, Nat.zero_add, List.getD_cons_zero]
    rw [List.getElem?_append_left (by omega)]
  | x :: L, k + 1, h, hk, j, hj => by
    have h1 := h x (by simp)
    have h2 := flat_get (L := L) k (fun y hy => h y (by simp [hy])) (by simpa using hk) j hj
    simp only [List.flatten_cons, List.getD_cons_succ]
    rw [List.getElem?_append_right (by omega), ← h2]
    congr 1
    omega
theorem flat_take : ∀ {L : List (List UInt8)} (k : Nat), All32 L → (L.take k).flatten = L.flatten.take (k * 32)
  | [], _, _ => by simp
  | x :: L, 0, _ => by simp
  | x :: L, k + 1, h => by
    have h1 := h x (by simp)
    have h2 := flat_take (L := L) k (fun y hy => h y (by simp [hy]))
    simp only [List.take_succ_cons, List.flatten_cons, h2]
    have e : List.take ((k + 1) * 32) x = x := List.take_of_length_le (by omega)
    rw [List.take_append, e, h1, show (k + 1) * 32 - 32 = k * 32 by omega]
theorem take_get (k : Nat) (hk : k < L.length) : L.take (k + 1) = L.take k ++ [L.getD k []] := by
  rw [List.take_succ_eq_append_getElem hk]; simp [List.getD, hk]
/-- A slice of [32]byte that reads as a list. -/
def RdL (w : World) (v : Value) (L : List (List UInt8)) : Prop := All32 L ∧ Rd w 32 v L.length (bys L.flatten)
def OwL (w : World) (base : Nat) (v : Value) (L : List (List UInt8)) : Prop := All32 L ∧ Ow w base 42 32 v L.length (bys L.flatten)
variable {w w' : World} {v : Value} {base : Nat}
theorem RdL.below (h : RdL w v L) (hb : Below w.heap.size w w') : RdL w' v L := ⟨h.1, h.2.below hb⟩
theorem OwL.below (h : OwL w base v L) (hb : Below w.heap.size w w') : OwL w' base v L := ⟨h.1, h.2.below hb⟩
theorem OwL.rd (h : OwL w base v L) : RdL w v L := ⟨h.1, Rd.of_ow h.2⟩
theorem RdL.cut {q : Option Addr} {c k : Nat} (h : RdL w (.slice q L.length c) L) (hk : k ≤ L.length) : Rd w 32 (.slice q k c) k (bys (L.take k).flatten) := by
  obtain ⟨h1, h2⟩ := h.2
  have hf := h.1.flat
  refine ⟨by rw [bys_length, (h.1.take k).flat, List.length_take]; omega, ?_⟩
  rcases h2 with ⟨hv, h0⟩ | ⟨b, off, cap, hv, hb, hnc, hcm, hc⟩
  · injection hv with hq hl hcc
    exact .inl ⟨by rw [show k = 0 by omega, hq, hcc], by omega⟩
  · injection hv with hq hl hcc
    subst hq hcc
    refine .inr ⟨b, off, c, rfl, hb, by omega, hcm, fun j u hu => hc j u ?_⟩
    rw [← hu]
    have hj := (List.getElem?_eq_some_iff.1 hu).1
    rw [bys_length, (h.1.take k).flat, List.length_take] at hj
    rw [flat_take k h.1]
    simp only [bys, List.getElem?_map, List.getElem?_take]
    rw [if_pos (by omega)]
theorem RdL.cut' {q : Option Addr} {c k : Nat} (h : RdL w (.slice q L.length c) L) (hk : k ≤ L.length) : RdL w (.slice q k c) (L.take k) :=
  ⟨h.1.take k, by have := h.cut hk; rwa [show (L.take k).length = k by rw [List.length_take]; omega]⟩
/-- One of them, loaded. -/
theorem RdL.load {q : Option Addr} {c k : Nat} (h : RdL w (.slice q L.length c) L) (hk : k < L.length) :
    ∃ b off, q = some ⟨b, off, none⟩ ∧ b < w.heap.size ∧ L.length ≤ c ∧ c ≤ maxLen ∧ ∀ x, Below w.heap.size w x → (Instr.loadAt 42 (.pointer (some ⟨b, off + k * 32, none⟩))).run Tryd.prog x = .ok (.agg (bysA (L.getD k []))) x := by
  obtain ⟨b, off, rfl, hb, hnc, hcm, hc⟩ := Rd_lt h.2 (by omega)
  refine ⟨b, off, rfl, hb, hnc, hcm, fun x hx => ?_⟩
  have hl := h.1.getD hk
  refine run_loadAt_mid x b (off + k * 32) _ (bys (L.getD k [])) _ (fun j u hu => ?_) Tryd.underlying42 rfl (by rw [bys_length, hl]; exact info32)
  have hj := (List.getElem?_eq_some_iff.1 hu).1
  rw [bys_length, hl] at hj
  rw [Nat.add_assoc]
  refine (hx.cell (p := ⟨b, off + (k * 32 + j), none⟩) hb).trans (hc (k * 32 + j) u ?_)
  rw [← hu]
  simp only [bys, List.getElem?_map]
  rw [flat_get k h.1 hk j hj]
end
theorem fill_get : ∀ (l : List Value) (k : Nat) (z : Array Value) (j : Nat), (List.foldl (fun (cs : Array Value) (x : Value × Nat) => cs.setIfInBounds x.2 x.1) z (l.zipIdx k))[j]? = if k ≤ j ∧ j < k + l.length ∧ j < z.size then l[j - k]? else z[j]?
  | [], k, z, j => by simp; intro h1 h2; omega
  | v :: l, k, z, j => by
    rw [List.zipIdx_cons, List.foldl_cons, fill_get l (k + 1) _ j]
    simp only [Array.size_setIfInBounds, List.length_cons]
    by_cases hj : j = k
    · subst hj
      rw [if_neg (by omega)]
      by_cases hs : j < z.size
      · rw [if_pos (by omega)]; simp [hs]
      · rw [if_neg (by omega)]; simp [hs]
    · by_cases h2 : k + 1 ≤ j ∧ j < k + 1 + l.length ∧ j < z.size
      · rw [if_pos h2, if_pos (by omega), show j - k = (j - (k + 1)) + 1 by omega]; simp
      · rw [if_neg h2, if_neg (by omega), Array.getElem?_setIfInBounds_ne (by omega)]
/-- A literal's cells, where an element has many. -/
theorem fill_all (c z : Array Value) (h : c.size = z.size) : Array.foldl (fun (cs : Array Value) (x : Value × Nat) => cs.setIfInBounds x.2 x.1) z c.zipIdx 0 c.size = c := by
  have e : Array.foldl (fun (cs : Array Value) (x : Value × Nat) => cs.setIfInBounds x.2 x.1) z c.zipIdx 0 c.size = List.foldl (fun (cs : Array Value) (x : Value × Nat) => cs.setIfInBounds x.2 x.1) z (c.toList.zipIdx 0) := by
    have hs : c.size = c.zipIdx.size := by simp
    rw [hs, ← Array.foldl_toList]
    simp
  rw [e]
  apply Array.ext_getElem?
  intro j
  rw [fill_get]
  by_cases hj : j < c.size
  · rw [if_pos (by simp; omega)]; simp
  · rw [if_neg (by simp; omega), Array.getElem?_eq_none (by omega), Array.getElem?_eq_none (by omega)]
theorem infoA32 : (Tryd.prog.info? 42).map (fun i => (i.zero, i.size, i.bytes)) = some (some (.agg (bysA zeros32)), 32, 32) := by kernel_rfl
end Ref
end Go.Proofs.YtmkoiddfkanmiaaDoor

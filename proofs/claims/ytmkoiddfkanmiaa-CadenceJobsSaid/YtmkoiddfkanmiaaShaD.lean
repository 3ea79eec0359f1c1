/- The walks of sha2's Hash: New, Write. -/
import Derived.Test.YtmkoiddfkanmiaaShaC
import Derived.Test.YtmkoiddfkanmiaaMem
namespace Go.Proofs.Ytmkoiddfkanmiaa
open Go.RowKit Bits Mem
namespace Sha
theorem info1 : (Try.prog.info? 5).map (fun i => (i.zero, i.size, i.bytes)) = some (some (.int .u8 0), 1, 1) := by kernel_rfl
/-- What stands in memory behind a *Hash to which 'all' was written. -/
def HashAt (w : World) (hb : Nat) (all : List UInt8) : Prop :=
  ∃ p c t, w.heap[hb]? = some (.cells (cells (st all) ++ #[.slice p (rs all).length c, .int .i64 (all.length : Int)]) t (0, 0)) ∧
    Rd w 1 (.slice p (rs all).length c) (rs all).length (bys (rs all)) ∧ (Value.slice p (rs all).length c).ownBlock ≠ some hb
theorem set_last (A : Array Value) (a b v : Value) (n : Nat) (hA : A.size + 1 = n) : (A ++ #[a, b]).setIfInBounds n v = A ++ #[a, v] := by
  subst hA
  apply Array.ext'
  simp
theorem set_prev (A : Array Value) (a b v : Value) (n : Nat) (hA : A.size = n) : (A ++ #[a, b]).setIfInBounds n v = A ++ #[v, b] := by
  subst hA
  apply Array.ext'
  simp
theorem row_words (A B : List (BitVec 32)) (a b : Value) (hA : A.length = 8) (hB : B.length = 8) :
    ((cells A ++ #[a, b]).toList.take 0 ++ (cells B).toList ++ (cells A ++ #[a, b]).toList.drop (0 + (cells B).size)).toArray = cells B ++ #[a, b] := by
  apply Array.ext'
  simp [cells, hA, hB]
theorem Rd_form {w : World} {size : Nat} {v : Value} {n : Nat} {xs : List Value} (h : Rd w size v n xs) : ∃ p c, v = .slice p n c := by
  rcases h.2 with ⟨rfl, rfl⟩ | ⟨b, off, cap, rfl, _⟩
  · exact ⟨_, _, rfl⟩
  · exact ⟨_, _, rfl⟩
theorem Rd_cut {w : World} {size : Nat} {p : Option Addr} {c n : Nat} {xs : List Value} (h : Rd w size (.slice p n c) n xs) : Rd w size (.slice p n n) n xs := by
  refine ⟨h.1, ?_⟩
  rcases h.2 with ⟨hv, rfl⟩ | ⟨b, off, cap, hv, hb, hnc, hcm, hc⟩
  · cases hv; exact .inl ⟨rfl, rfl⟩
  · cases hv; exact .inr ⟨b, off, n, rfl, hb, Nat.le_refl _, Nat.le_trans hnc hcm, hc⟩
theorem grown_trans {a b c : World} {r : Option Nat} (h : a.grownBy b r) (k : b.grownBy c r) : a.grownBy c r :=
  ⟨k.os.trans h.os, k.tape.trans h.tape, k.output.trans h.output, Nat.le_trans h.size k.size, fun i hi hne => (k.block i (Nat.lt_of_lt_of_le hi h.size) hne).trans (h.block i hi hne)⟩
theorem grown_below {a b : World} (h : Below a.heap.size a b) (r : Option Nat) : a.grownBy b r := ⟨h.os, h.tape, h.output, h.size, fun k hk _ => h.block k hk⟩
theorem grown_setCell (a : World) (g o : Nat) (v : Value) : a.grownBy (a.setCell ⟨g, o, none⟩ v) (some g) :=
  ⟨rfl, rfl, rfl, by simp, fun k _ hne => heap_setCell_other _ _ _ _ (by intro e; apply hne; rw [e])⟩
theorem grown_setRow (a : World) (g : Nat) (c : Array Value) : a.grownBy (a.setRow g c) (some g) :=
  ⟨rfl, rfl, rfl, by simp, fun k _ hne => setRow_other _ _ _ _ (by intro e; apply hne; rw [e])⟩
/-- The number of elements in a slot's slice: for a loop's measure. -/
def sliceLen : Value → Nat | .slice _ n _ => n | _ => 0
theorem Rd_lt {w : World} {size : Nat} {p : Option Addr} {c n : Nat} {xs : List Value} (h : Rd w size (.slice p n c) n xs) (h0 : 0 < n) :
    ∃ b off, p = some ⟨b, off, none⟩ ∧ b < w.heap.size ∧ n ≤ c ∧ c ≤ maxLen ∧ ∀ j u, xs[j]? = some u → w.cell? ⟨b, off + j, none⟩ = some u := by
  rcases h.2 with ⟨_, h1⟩ | ⟨b, off, cap, hv, hb, hnc, hcm, hc⟩
  · omega
  · have e := Value.slice.inj hv
    obtain ⟨e1, _, e3⟩ := e
    subst e1 e3
    exact ⟨b, off, rfl, hb, hnc, hcm, hc⟩
/-- A slice from its k-th element on (in the two ways in which the model lays it). -/
theorem Rd_drop {w : World} {b off c n k : Nat} {l : List UInt8} (h : Rd w 1 (.slice (some ⟨b, off, none⟩) n c) n (bys l)) (hk : k ≤ n) :
    Rd w 1 (.slice (some ⟨b, off + k, none⟩) (n - k) (c - k)) (n - k) (bys (l.drop k)) := by
  obtain ⟨h1, h2⟩ := h
  rw [bys_length] at h1
  refine ⟨by rw [bys_length, List.length_drop]; omega, ?_⟩
  rcases h2 with ⟨hv, _⟩ | ⟨b', off', cap, hv, hb, hnc, hcm, hc⟩
  · cases hv
  · cases hv
    refine .inr ⟨b, off + k, c - k, rfl, hb, by omega, by omega, fun j u hu => ?_⟩
    have : (bys l)[k + j]? = some u := by
      rw [← hu]; simp [bys, List.getElem?_drop]
    have := hc (k + j) u this
    rwa [show off + k + j = off + (k + j) by omega]
theorem Rd_none {w : World} {b off c : Nat} {n : Nat} {xs : List Value} (h : Rd w 1 (.slice (some ⟨b, off, none⟩) n c) n xs) (c' : Nat) (hc' : c' ≤ maxLen) : Rd w 1 (.slice (some ⟨b, off, none⟩) 0 c') 0 (bys []) := by
  refine ⟨rfl, ?_⟩
  rcases h.2 with ⟨hv, _⟩ | ⟨b', off', cap, hv, hb, _⟩
  · cases hv
  · cases hv; exact .inr ⟨b, off, c', rfl, hb, Nat.zero_le _, hc', fun j u hu => by simp [bys] at hu⟩
end Sha
end Go.Proofs.Ytmkoiddfkanmiaa

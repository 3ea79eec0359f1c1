/- s[k:]. Conditions: k below the length. -/
import Derived.Test.YtkembhonfehlbaaDoorConcW
namespace Go.Proofs.YtkembhonfehlbaaDoor
open Go.RowKit Bits Mem
namespace Rp
variable {P : Program}
theorem run_low (t e : TypeId) (i : TypeInfo) (ht : P.underlying t = some (.slice e)) (hi : P.info? e = some i) (b off n c k : Nat) (hk : k < n) (hn : n ≤ c) (x : World) :
    (Instr.slice t (.slice (some ⟨b, off, none⟩) n c) (some (.int .i64 (k : Int))) none none).run P x = .ok (.slice (some ⟨b, off + k * i.size, none⟩) (n - k) (c - k)) x := by
  have h1 : ¬ c ≤ k := by omega
  have h2 : (k : Int) ≤ (n : Int) := by omega
  have h3 : (n : Int) ≤ (c : Int) := by omega
  have h4 : (k : Int) ≤ (c : Int) := by omega
  have h5 : ¬ c - k = 0 := by omega
  have e : (if k * i.size = 0 then (⟨b, off, none⟩ : Addr) else ⟨b, off + k * i.size, none⟩) = ⟨b, off + k * i.size, none⟩ := by
    split
    · rename_i h; rw [h]; rfl
    · rfl
  have h6 : ¬ c = k := by omega
  have h7 : k ≤ n := Nat.le_of_lt hk
  simp [Instr.slice, Instr.sliceBounds, Instr.sliceBound, asIntOf, Sem.run_bind, run_underlying ht, sizeOf, typeInfo, hi, h6, h7, Addr.add, e]
theorem run_low2 (t e : TypeId) (i : TypeInfo) (ht : P.underlying t = some (.slice e)) (hi : P.info? e = some i) (b off n c k : Nat) (hk : k ≤ n) (hn : n ≤ c) (x : World) :
    ∃ o', (Instr.slice t (.slice (some ⟨b, off, none⟩) n c) (some (.int .i64 (k : Int))) none none).run P x = .ok (.slice (some ⟨b, o', none⟩) (n - k) (c - k)) x ∧ (k < n → o' = off + k * i.size) := by
  rcases Nat.lt_or_ge k n with h | h
  · exact ⟨_, run_low t e i ht hi b off n c k h hn x, fun _ => rfl⟩
  · obtain rfl : k = n := by omega
    have h3 : (k : Int) ≤ (c : Int) := by omega
    by_cases h6 : c = k
    · subst h6
      refine ⟨off, ?_, fun h => absurd h (Nat.lt_irrefl _)⟩
      simp [Instr.slice, Instr.sliceBounds, Instr.sliceBound, asIntOf, Sem.run_bind, run_underlying ht, sizeOf, typeInfo, hi]
    · refine ⟨off + k * i.size, ?_, fun h => absurd h (Nat.lt_irrefl _)⟩
      have e : (if k * i.size = 0 then (⟨b, off, none⟩ : Addr) else ⟨b, off + k * i.size, none⟩) = ⟨b, off + k * i.size, none⟩ := by
        split
        · rename_i h; rw [h]; rfl
        · rfl
      simp [Instr.slice, Instr.sliceBounds, Instr.sliceBound, asIntOf, Sem.run_bind, run_underlying ht, sizeOf, typeInfo, hi, h6, Addr.add, e]
end Rp
namespace Rc
section
variable {P : Program} {ops : Array Oper} {Q : Exit → Act → World → Prop} {B : Nat} {w : World} {spec : List Sp} {fin : List Nat} {tail : List Oper} {p : Nat → Par} {j : Nat} {o : Oper} {r : List Oper} {a : Act}
theorem r_cutlo (hl : look spec j = none) (hw : Region.wanted o (yielded ops a.tmps) = true) (t : TypeId) (y z : Operand) (ho : o.op = .slice t y (some z) none none) (e : TypeId) (i : TypeInfo) (ht : P.underlying t = some (.slice e)) (hi : P.info? e = some i)
    (b off n c k size : Nat) (hs : i.size = size) (hy : a.eval y = .slice (some ⟨b, off, none⟩) n c) (hz : a.eval z = .int .i64 (k : Int)) (hk : k < n) (hn : n ≤ c)
    (h : ∀ K : Act → Prop, (∀ a, wpSeq P ops Q B w spec fin tail p (j + 1) r a → K a) → K (a.put o.dst (.slice (some ⟨b, off + k * size, none⟩) (n - k) (c - k)))) : wpSeq P ops Q B w spec fin tail p j (o :: r) a :=
  r_run _ hl hw (fun x _ => by
    have := Rp.run_low (P := P) t e i ht hi b off n c k hk hn x
    rw [hs] at this
    simp [execOp, ho, hy, hz, Instr.sliceAt, Sem.run_bind, run_underlying ht, this]) h
end
end Rc
theorem l_cutlo {P : Program} {ops : Array Oper} {Q : Exit → Act → World → Prop} {a : Act} {w : World} {o : Oper} {rest : List Oper} (hg : o.guard = none) (t : TypeId) (y z : Operand) (ho : o.op = .slice t y (some z) none none) (e : TypeId) (i : TypeInfo) (ht : P.underlying t = some (.slice e)) (hi : P.info? e = some i)
    (b off n c k size : Nat) (hs : i.size = size) (hy : a.eval y = .slice (some ⟨b, off, none⟩) n c) (hz : a.eval z = .int .i64 (k : Int)) (hk : k < n) (hn : n ≤ c)
    (h : wpList P ops Q rest (a.put o.dst (.slice (some ⟨b, off + k * size, none⟩) (n - k) (c - k))) w) : wpList P ops Q (o :: rest) a w :=
  wpList_plain hg fun K hK => by
    have := Rp.run_low (P := P) t e i ht hi b off n c k hk hn w
    rw [hs] at this
    unfold Oper.wp
    simp [execOp, ho, hy, hz, Instr.sliceAt, Sem.run_bind, run_underlying ht, this, Result.andThen]
    exact hK _ _ h
/-- The same, where it may be cut at the end. -/
theorem l_cutlo2 {P : Program} {ops : Array Oper} {Q : Exit → Act → World → Prop} {a : Act} {w : World} {o : Oper} {rest : List Oper} (hg : o.guard = none) (t : TypeId) (y z : Operand) (ho : o.op = .slice t y (some z) none none) (e : TypeId) (i : TypeInfo) (ht : P.underlying t = some (.slice e)) (hi : P.info? e = some i)
    (b off n c k size d : Nat) (hs : i.size = size) (hy : a.eval y = .slice (some ⟨b, off, none⟩) n c) (hz : a.eval z = .int .i64 (k : Int)) (hk : k ≤ n) (hn : n ≤ c) (hd : n - k = d)
    (h : ∀ o', (k < n → o' = off + k * size) → wpList P ops Q rest (a.put o.dst (.slice (some ⟨b, o', none⟩) d (c - k))) w) : wpList P ops Q (o :: rest) a w :=
  wpList_plain hg fun K hK => by
    obtain ⟨o', hr, he⟩ := Rp.run_low2 (P := P) t e i ht hi b off n c k hk hn w
    rw [hd] at hr
    unfold Oper.wp
    simp [execOp, ho, hy, hz, Instr.sliceAt, Sem.run_bind, run_underlying ht, hr, Result.andThen]
    exact hK _ _ (h o' (by rw [← hs]; exact he))
end Go.Proofs.YtkembhonfehlbaaDoor

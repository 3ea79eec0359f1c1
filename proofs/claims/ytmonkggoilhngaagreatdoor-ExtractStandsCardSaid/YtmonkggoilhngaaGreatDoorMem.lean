/- Slices that are read, and the built-in append, as laws for a walk. Conditions: the bounds that append has in the model (lengths that fit, at most 2^47 bytes). -/
import Derived.Test.YtmonkggoilhngaaGreatDoorRegion
import Derived.Deep.AppendSrc
import Derived.Laws.OwnMore
import Derived.Laws.AppendOwnNone
import Derived.Below
namespace Go.Proofs.YtmonkggoilhngaaGreatDoor
open Go.RowKit
namespace Mem
/-- A slice value that reads as the cells xs: n elements of so many cells each; nil has none. -/
def Rd (w : World) (size : Nat) (v : Value) (n : Nat) (xs : List Value) : Prop :=
  xs.length = n * size ∧ ((v = .slice none 0 0 ∧ n = 0) ∨
    ∃ b off cap, v = .slice (some ⟨b, off, none⟩) n cap ∧ b < w.heap.size ∧ n ≤ cap ∧ cap ≤ maxLen ∧ ∀ j u, xs[j]? = some u → w.cell? ⟨b, off + j, none⟩ = some u)
section
variable {w w' : World} {base size n m : Nat} {e : TypeId} {v x : Value} {xs news : List Value}
theorem Rd.nil (w : World) (size : Nat) : Rd w size (.slice none 0 0) 0 [] := ⟨by simp, .inl ⟨rfl, rfl⟩⟩
theorem addr_add (b o j : Nat) : (⟨b, o, none⟩ : Addr).add j = ⟨b, o + j, none⟩ := by
  unfold Addr.add; split <;> simp_all
theorem Rd.of_own (h : w.ownsRow base e size v n xs) : Rd w size v n xs := by
  refine ⟨h.1, ?_⟩
  rcases h.2 with hn | ⟨g, cap, cur, rfl, hb, hg, hnc, hcm, hcs, htake⟩
  · exact .inl hn
  · refine .inr ⟨g, 0, cap, rfl, (Array.getElem?_eq_some_iff.1 hg).1, hnc, hcm, fun j u hu => ?_⟩
    have := h.cells (g := g) rfl j u hu
    rwa [addr_add] at this
theorem Rd.kept (h : Rd w size v n xs) {row : Option Nat} (hg : w.grownBy w' row) (hne : v.ownBlock = none ∨ v.ownBlock ≠ row) : Rd w' size v n xs := by
  refine ⟨h.1, ?_⟩
  rcases h.2 with hn | ⟨b, off, cap, rfl, hb, hnc, hcm, hc⟩
  · exact .inl hn
  · refine .inr ⟨b, off, cap, rfl, Nat.lt_of_lt_of_le hb hg.size, hnc, hcm, fun j u hu => ?_⟩
    exact hg.cell (hc j u hu) (by simpa [Value.ownBlock] using hne)
theorem Rd.below (h : Rd w size v n xs) (hb : Below w.heap.size w w') : Rd w' size v n xs := by
  refine ⟨h.1, ?_⟩
  rcases h.2 with hn | ⟨b, off, cap, rfl, hlt, hnc, hcm, hc⟩
  · exact .inl hn
  · exact .inr ⟨b, off, cap, rfl, Nat.lt_of_lt_of_le hlt hb.size, hnc, hcm, fun j u hu => (hb.cell (p := ⟨b, off + j, none⟩) hlt).trans (hc j u hu)⟩
theorem Rd.drewN (h : Rd w size v n xs) (k : Nat) : Rd (w.drewN k) size v n xs := h
theorem Rd.src {P : Program} {t e' : TypeId} (hk : P.underlying t = some (.slice e')) (h : Rd w size x m news) (h1 : ∀ u ∈ news, u.oneCell' = true) : Src P size t x m news w := by
  rcases h.2 with ⟨rfl, rfl⟩ | ⟨b, off, cap, rfl, _, _, _, hc⟩
  · have : news = [] := List.eq_nil_of_length_eq_zero (by simpa using h.1)
    subst this
    exact Src.ofNil w hk 0
  · exact Src.ofSlice w hk _ m cap news h.1 (fun j u hu => by rw [addr_add]; exact hc j u hu) h1
theorem below_of_grown {B : Nat} {row : Option Nat} (hg : w.grownBy w' row) (hB : B ≤ w.heap.size) (hr : ∀ k, row = some k → B ≤ k) : Below B w w' :=
  (Below.refl B w).grown hg hB hr
/-- append onto a slice of the call's own. -/
theorem app_own {P : Program} {ops : Array Oper} {rest : List Oper} {o : Oper} {a : Act} {Q : Exit → Act → World → Prop} (hgd : o.guard = none) (s y : Operand) (t : TypeId)
    (ho : o.op = .call { callee := .builtin .append, args := #[s, y], argTypes := #[t, t] })
    (base : Nat) (e : TypeId) (i : TypeInfo) (z : Value) (size bytes : Nat) (ht : P.underlying t = some (.slice e)) (hi : P.info? e = some i) (hz : i.zero = some z)
    (hsize : i.size = size) (hby : i.bytes = bytes) (hzs : z.cells.size = size) (hsz : 0 < size)
    (v : Value) (n : Nat) (xs : List Value) (hs : a.eval s = v) (hown : w.ownsRow base e size v n xs)
    (x : Value) (m : Nat) (news : List Value) (hx : a.eval y = x) (hsrc : Rd w size x m news) (h1 : ∀ u ∈ news, u.oneCell' = true)
    (h63 : n + m ≤ maxLen) (hbytes : (n + m) * bytes ≤ 140737488355328) (hbase : base ≤ w.heap.size)
    (h : ∀ v' w', w'.ownsRow base e size v' (n + m) (xs ++ news) → w.grownBy w' v.ownBlock → (v' = .slice none 0 0 ↔ v = .slice none 0 0 ∧ m = 0) → wpList P ops Q rest (a.put o.dst v') w') : wpList P ops Q (o :: rest) a w := by
  rcases hsrc.2 with ⟨rfl, rfl⟩ | ⟨b, off, cap, rfl, _, _, _, hc⟩
  · have hn : news = [] := List.eq_nil_of_length_eq_zero (by simpa using hsrc.1)
    subst hn
    refine wpList_append_own_none hgd s y t ho base e i size ht hi v n xs hs hown hx (h v w (by simpa using hown) ⟨rfl, rfl, rfl, Nat.le_refl _, fun _ _ _ => rfl⟩ ?_)
    simp
  · exact wpList_append_own w hgd s y t ho base e i z size bytes ht hi hz hsize hby hzs hsz v n xs hs hown ⟨b, off, none⟩ m cap news hx hsrc.1 (fun j u hu => by rw [addr_add]; exact hc j u hu) h1 h63 hbytes hbase h
theorem zeroCells_size (z : Array Value) (n : Nat) : (Builtin.zeroCells z n).size = n * z.size := by simp [Builtin.zeroCells]
/-- append onto a slice without room: nothing of what was there turns. -/
theorem app_full {P : Program} {ops : Array Oper} {rest : List Oper} {o : Oper} {a : Act} {Q : Exit → Act → World → Prop} (hgd : o.guard = none) (s y : Operand) (t : TypeId)
    (ho : o.op = .call { callee := .builtin .append, args := #[s, y], argTypes := #[t, t] })
    (e : TypeId) (i : TypeInfo) (z : Value) (size bytes : Nat) (ht : P.underlying t = some (.slice e)) (hi : P.info? e = some i) (hz : i.zero = some z)
    (hsize : i.size = size) (hby : i.bytes = bytes) (hzs : z.cells.size = size)
    (p : Option Addr) (n : Nat) (xs : List Value) (hs : a.eval s = .slice p n n) (hold : Rd w size (.slice p n n) n xs)
    (x : Value) (m : Nat) (news : List Value) (hx : a.eval y = x) (hsrc : Rd w size x m news) (h1 : ∀ u ∈ news, u.oneCell' = true)
    (h63 : n + m ≤ maxLen) (hbytes : (n + m) * bytes ≤ 140737488355328)
    (h : ∀ v' w', Rd w' size v' (n + m) (xs ++ news) → Below w.heap.size w w' → (v' = .slice p n n ∨ ∃ g cap, v' = .slice (some ⟨g, 0, none⟩) (n + m) cap ∧ w.heap.size ≤ g) → wpList P ops Q rest (a.put o.dst v') w') : wpList P ops Q (o :: rest) a w := by
  subst hsize
  subst hby
  have hS := hsrc.src ht h1
  have hlen : (xs ++ news).length = (n + m) * i.size := by rw [List.length_append, hold.1, hsrc.1, Nat.add_mul]
  refine wpList_plain hgd fun K hK => ?_
  by_cases hm : m = 0
  · subst hm
    have hn : news = [] := List.eq_nil_of_length_eq_zero (by simpa using hsrc.1)
    subst hn
    have hrun : (Builtin.append_ #[t, t] o.type #[.slice p n n, x]).run P w = .ok (.slice p n n) w := by
      have hc := hS.cells
      cases p <;> simp [Builtin.append_, run_underlying ht, sizeOf, typeInfo, hi, hS.len, hc, storeCells]
    unfold Oper.wp
    simp [execOp, ho, resolve, invoke, builtin, hs, hx, hrun, Result.andThen]
    exact hK _ _ (h _ _ (by simpa using hold) (Below.refl _ _) (.inl rfl))
  · have hfirst : (Builtin.firstCells i.size n (.slice p n n)).run P w.drew = .ok xs.toArray w.drew := by
      have hold' := hold
      rcases hold'.2 with ⟨hv, hn⟩ | ⟨b, off, cap, hv, _, _, _, hc⟩
      · cases hv
        have : xs = [] := List.eq_nil_of_length_eq_zero (by simpa using hold.1)
        subst this
        exact run_firstCells_none w.drew i.size 0 0 0
      · cases hv
        exact run_firstCells_some w.drew i.size n ⟨b, off, none⟩ n _ xs hold.1 (fun j u hu => by rw [addr_add]; simpa using hc j u hu)
    have hrun := run_append_grow_src (P := P) w t t o.type e i z ht hi hz p n n xs hfirst x m news hS (by omega) (by unfold maxLen at h63; omega) (growslice_fits (by omega) hbytes)
    unfold Oper.wp
    simp [execOp, ho, resolve, invoke, builtin, hs, hx, hrun, Result.andThen]
    refine hK _ _ (h _ _ ?_ ?_ (.inr ⟨_, _, rfl, Nat.le_refl _⟩))
    · have hge := grownCap_ge w (n + m) n e
      refine ⟨hlen, .inr ⟨w.heap.size, 0, _, rfl, by simp, hge, grownCap_le_maxLen w (n + m) n e h63, fun j u hu => ?_⟩⟩
      rw [Nat.zero_add, World.alloc_drew, World.cell?_drew]
      have hj := (List.getElem?_eq_some_iff.1 hu).1
      rw [World.cell?_alloc_at _ _ _ _ rfl, Array.getElem?_append_left (by simpa using hj)]
      simpa using hu
    · exact Below.drew ((Below.refl _ _).alloc (Nat.le_refl _) _)
end
/-- A literal that was just made reads as its cells. -/
theorem Rd_lit (w : World) (cs : Array Value) (e : TypeId) (size n : Nat) (hs : cs.size = n * size) (hm : n ≤ maxLen) : Rd (w.alloc (.cells cs e)) size (.slice (some ⟨w.heap.size, 0, none⟩) n n) n cs.toList :=
  Rd.of_own (World.ownsRow_lit (base := 0) w cs n (Nat.zero_le _) hm hs)
/-- In a region that draws its order: a load of many cells, by what it yields in every world of the class. -/
theorem q_load {P : Program} {ops : Array Oper} {C : World → Prop} {Q : Act → Prop} {a : Act} {o : Oper} {rest : List Oper} (hg : o.guard = none) (ty : TypeId) (y : Operand) (ho : o.op = .load ty y) (v : Value)
    (hrun : ∀ w, C w → (Instr.loadAt ty (a.eval y)).run P w = .ok v w)
    (h : ∀ K : Act → Prop, (∀ a, wpQuiet P ops C Q rest a → K a) → K (a.put o.dst v)) : wpQuiet P ops C Q (o :: rest) a :=
  Rg.step v hg (fun w hw => by
    unfold Oper.quietAt execOp
    simp only [ho, Sem.run_bind, hrun w hw, Result.andThen_ok, Sem.run_pure]
    exact ⟨rfl, rfl⟩) (h _ (fun _ h => h))
/-- Bytes as cells. -/
def bys (l : List UInt8) : List Value := l.map fun b => Value.int .u8 (b.toNat : Int)
theorem bys_append (l r : List UInt8) : bys (l ++ r) = bys l ++ bys r := by simp [bys]
theorem bys_length (l : List UInt8) : (bys l).length = l.length := by simp [bys]
theorem bys_one (l : List UInt8) : ∀ u ∈ bys l, u.oneCell' = true := by
  intro u hu; simp [bys] at hu; obtain ⟨x, _, rfl⟩ := hu; rfl
theorem bys_get (l : List UInt8) (k : Nat) (h : k < l.length) : (bys l)[k]? = some (.int .u8 ((l.getD k 0).toNat : Int)) := by
  simp [bys, List.getD, h]
/-- A load, by what it yields. -/
theorem l_load {P : Program} {ops : Array Oper} {Q : Exit → Act → World → Prop} {a : Act} {w : World} {o : Oper} {rest : List Oper} (hg : o.guard = none) (ty : TypeId) (y : Operand) (ho : o.op = .load ty y) (v : Value)
    (hrun : (Instr.loadAt ty (a.eval y)).run P w = .ok v w) (h : wpList P ops Q rest (a.put o.dst v) w) : wpList P ops Q (o :: rest) a w :=
  wpList_plain hg fun _ hK => by
    unfold Oper.wp execOp
    simp only [ho, Sem.run_bind, hrun, Result.andThen_ok, Sem.run_pure]
    exact hK _ _ h
theorem below_app {B : Nat} {w0 w w' : World} {base : Nat} {e : TypeId} {size n : Nat} {v : Value} {xs : List Value} {o : Obj} (hb : Below B w0 w) (hB : B ≤ w.heap.size) (hown : (w.alloc o).ownsRow base e size v n xs) (hbase : B ≤ base) (hg : (w.alloc o).grownBy w' v.ownBlock) : Below B w0 w' :=
  (hb.alloc hB o).grown hg (by simp; omega) (fun k hk => Nat.le_trans hbase (hown.lt k hk).1)
end Mem
end Go.Proofs.YtmonkggoilhngaaGreatDoor

/- A schedule and the document's, side by side. -/
import Derived.Test.YtmkoiddfkanmiaaCadW
import Derived.Test.YtmkoiddfkanmiaaCadP
namespace Go.Proofs.Ytmkoiddfkanmiaa
open Go.RowKit Bits Mem Sha
namespace Mem
theorem Ow.typed {w : World} {B s n : Nat} {e : TypeId} {v : Value} {xs : List Value} (h : Ow w B e s v n xs) {k : Nat} (hk : v.ownBlock = some k) : ∃ cur fz, w.heap[k]? = some (.cells cur e fz) := by
  rcases h.2 with ⟨rfl, _⟩ | ⟨g, cap, cur, fz, rfl, hb, hg, _⟩
  · cases hk
  · cases hk; exact ⟨cur, fz, hg⟩
theorem ne_typed {w : World} {i j : Nat} {c1 c2 : Array Value} {t1 t2 : TypeId} {f1 f2 : Nat × Nat} (h1 : w.heap[i]? = some (.cells c1 t1 f1)) (h2 : w.heap[j]? = some (.cells c2 t2 f2)) (ht : t1 ≠ t2) : i ≠ j := by
  intro e
  subst e
  rw [h1] at h2
  cases h2
  exact ht rfl
theorem Ow.at {w x : World} {B s n : Nat} {e : TypeId} {v : Value} {xs : List Value} (h : Ow w B e s v n xs) (hx : ∀ k, v.ownBlock = some k → x.heap[k]? = w.heap[k]?) : Ow x B e s v n xs := by
  refine ⟨h.1, ?_⟩
  rcases h.2 with hn | ⟨g, cap, cur, fz, rfl, hb, hg, rest⟩
  · exact .inl hn
  · exact .inr ⟨g, cap, cur, fz, rfl, hb, (hx g rfl).trans hg, rest⟩
end Mem
namespace Cad
theorem SchedAt.at {w x : World} {sb base : Nat} {q : Option Addr} {c : Nat} {now : Int} {L : List One} (h : SchedAt w sb base q c now L) (hx : ∀ k, (k = sb ∨ (Value.slice q L.length c).ownBlock = some k) → x.heap[k]? = w.heap[k]?) : SchedAt x sb base q c now L :=
  ⟨(hx sb (.inl rfl)).trans h.1, h.2.1, h.2.2.at (fun k hk => hx k (.inr hk))⟩
theorem DocAt.at {w x : World} {sb base : Nat} {q : Option Addr} {c : Nat} {now : Int} {L : List One} (h : DocAt w sb base q c now L) (hx : ∀ k, (k = sb ∨ (Value.slice q L.length c).ownBlock = some k) → x.heap[k]? = w.heap[k]?) : DocAt x sb base q c now L :=
  ⟨(hx sb (.inl rfl)).trans h.1, h.2.1, h.2.2.at (fun k hk => hx k (.inr hk))⟩
/-- The two side by side. -/
structure Pair (w0 w : World) (S : Nat) (na nd : Int) (qa : Option Addr) (ca : Nat) (La : List One) (qd : Option Addr) (cd : Nat) (Ld : List One) : Prop where
  a : SchedAt w S (S + 2) qa ca na La
  d : DocAt w (S + 1) (S + 2) qd cd nd Ld
  le : w0.heap.size ≤ S
  kept : Below w0.heap.size w0 w
/-- What is the schedule's, and what is the document's. -/
def mineA (S : Nat) (qa : Option Addr) (na ca : Nat) : Nat → Prop := fun k => k = S ∨ (Value.slice qa na ca).ownBlock = some k
def mineD (S : Nat) (qd : Option Addr) (nd cd : Nat) : Nat → Prop := fun k => k = S + 1 ∨ (Value.slice qd nd cd).ownBlock = some k
section
variable {w0 w w' : World} {S : Nat} {na nd : Int} {qa qd : Option Addr} {ca cd : Nat} {La Ld : List One}
theorem Pair.size (h : Pair w0 w S na nd qa ca La qd cd Ld) : S + 2 ≤ w.heap.size := by
  have := (Array.getElem?_eq_some_iff.1 h.d.1).1
  omega
theorem Pair.ltA (h : Pair w0 w S na nd qa ca La qd cd Ld) : ∀ k, mineA S qa La.length ca k → S ≤ k ∧ k < w.heap.size := by
  rintro k (rfl | hk)
  · have := h.size; omega
  · have := h.a.2.2.lt k hk; omega
theorem Pair.ltD (h : Pair w0 w S na nd qa ca La qd cd Ld) : ∀ k, mineD S qd Ld.length cd k → S ≤ k ∧ k < w.heap.size := by
  rintro k (rfl | hk)
  · have := h.size; omega
  · have := h.d.2.2.lt k hk; omega
theorem Pair.apart (h : Pair w0 w S na nd qa ca La qd cd Ld) : ∀ k, mineA S qa La.length ca k → mineD S qd Ld.length cd k → False := by
  rintro k (rfl | hk) (hj | hj)
  · omega
  · have := (h.d.2.2.lt k hj).1; omega
  · have := (h.a.2.2.lt k hk).1; omega
  · obtain ⟨c1, f1, h1⟩ := h.a.2.2.typed hk
    obtain ⟨c2, f2, h2⟩ := h.d.2.2.typed hj
    exact ne_typed h1 h2 (by decide) rfl
theorem Pair.below (h : Pair w0 w S na nd qa ca La qd cd Ld) (hb : Below w.heap.size w w') : Pair w0 w' S na nd qa ca La qd cd Ld :=
  ⟨h.a.below hb, h.d.below hb, h.le, h.kept.trans (hb.mono (by have := h.size; have := h.le; omega))⟩
theorem Pair.turnA {na' : Int} {qa' : Option Addr} {ca' : Nat} {La' : List One} (h : Pair w0 w S na nd qa ca La qd cd Ld) (h1 : SchedAt w' S (S + 2) qa' ca' na' La') (hk : Kp (mineA S qa La.length ca) w w') : Pair w0 w' S na' nd qa' ca' La' qd cd Ld :=
  ⟨h1, h.d.at (fun k hd => hk.block k (h.ltD k hd).2 (fun ha => h.apart k ha hd)), h.le, h.kept.trans (hk.below (by have := h.size; have := h.le; omega) (fun k ha => by have := (h.ltA k ha).1; have := h.le; omega))⟩
theorem Pair.turnD {nd' : Int} {qd' : Option Addr} {cd' : Nat} {Ld' : List One} (h : Pair w0 w S na nd qa ca La qd cd Ld) (h1 : DocAt w' (S + 1) (S + 2) qd' cd' nd' Ld') (hk : Kp (mineD S qd Ld.length cd) w w') : Pair w0 w' S na nd' qa ca La qd' cd' Ld' :=
  ⟨h.a.at (fun k ha => hk.block k (h.ltA k ha).2 (fun hd => h.apart k ha hd)), h1, h.le, h.kept.trans (hk.below (by have := h.size; have := h.le; omega) (fun k ha => by have := (h.ltD k ha).1; have := h.le; omega))⟩
/-- A job that was copied. -/
def VarAt (w : World) (v : Nat) (x : Job) : Prop := w.heap[v]? = some (.cells (jobA x) 38 (0, 0))
theorem VarAt.not_A {v : Nat} {x : Job} (hv : VarAt w v x) (h : Pair w0 w S na nd qa ca La qd cd Ld) : ¬ mineA S qa La.length ca v := by
  rintro (rfl | hk)
  · exact ne_typed hv h.a.1 (by decide) rfl
  · obtain ⟨c1, f1, h1⟩ := h.a.2.2.typed hk
    exact ne_typed hv h1 (by decide) rfl
theorem VarAt.not_D {v : Nat} {x : Job} (hv : VarAt w v x) (h : Pair w0 w S na nd qa ca La qd cd Ld) : ¬ mineD S qd Ld.length cd v := by
  rintro (rfl | hk)
  · exact ne_typed hv h.d.1 (by decide) rfl
  · obtain ⟨c1, f1, h1⟩ := h.d.2.2.typed hk
    exact ne_typed hv h1 (by decide) rfl
theorem VarAt.lt {v : Nat} {x : Job} (hv : VarAt w v x) : v < w.heap.size := (Array.getElem?_eq_some_iff.1 hv).1
theorem VarAt.below {v : Nat} {x : Job} (hv : VarAt w v x) (hb : Below w.heap.size w w') : VarAt w' v x := (hb.block v hv.lt).trans hv
theorem VarAt.turnA {v : Nat} {x : Job} (hv : VarAt w v x) (h : Pair w0 w S na nd qa ca La qd cd Ld) (hk : Kp (mineA S qa La.length ca) w w') : VarAt w' v x := (hk.block v hv.lt (hv.not_A h)).trans hv
theorem VarAt.turnD {v : Nat} {x : Job} (hv : VarAt w v x) (h : Pair w0 w S na nd qa ca La qd cd Ld) (hk : Kp (mineD S qd Ld.length cd) w w') : VarAt w' v x := (hk.block v hv.lt (hv.not_D h)).trans hv
theorem VarAt.cells {v : Nat} {x : Job} (hv : VarAt w v x) : w.cell? ⟨v, 0, none⟩ = some (.int .i64 x.what) ∧ w.cell? ⟨v, 1, none⟩ = some (.string ⟨x.id.toArray⟩) ∧ w.cell? ⟨v, 2, none⟩ = some (.int .i64 x.period) ∧ w.cell? ⟨v, 3, none⟩ = some (.int .i64 x.age) :=
  ⟨(cell_of_row _ _ _ _ _ _ hv).trans rfl, (cell_of_row _ _ _ _ _ _ hv).trans rfl, (cell_of_row _ _ _ _ _ _ hv).trans rfl, (cell_of_row _ _ _ _ _ _ hv).trans rfl⟩
/-- What stays of a schedule behind a call within a drawn region, whatever else is done. -/
theorem SchedAt.keeps {Pr F : Nat → Prop} {x y : World} {q : Option Addr} {c : Nat} {n : Int} {L : List One} (h : SchedAt x S (S + 2) q c n L) (hy : Rq.Keeps Pr F x y) (h1 : F S) (h2 : ∀ k, (Value.slice q L.length c).ownBlock = some k → F k) : SchedAt y S (S + 2) q c n L :=
  h.at (fun k hk => hy.block k (by rcases hk with rfl | hk; exact (Array.getElem?_eq_some_iff.1 h.1).1; exact (h.2.2.lt k hk).2) (.inr (by rcases hk with rfl | hk; exact h1; exact h2 k hk)))
theorem DocAt.keeps {Pr F : Nat → Prop} {x y : World} {q : Option Addr} {c : Nat} {n : Int} {L : List One} (h : DocAt x (S + 1) (S + 2) q c n L) (hy : Rq.Keeps Pr F x y) (h1 : F (S + 1)) (h2 : ∀ k, (Value.slice q L.length c).ownBlock = some k → F k) : DocAt y (S + 1) (S + 2) q c n L :=
  h.at (fun k hk => hy.block k (by rcases hk with rfl | hk; exact (Array.getElem?_eq_some_iff.1 h.1).1; exact (h.2.2.lt k hk).2) (.inr (by rcases hk with rfl | hk; exact h1; exact h2 k hk)))
end
/-- Two sets of old blocks, each one operation's own. -/
theorem own_pair {w : World} {q1 q2 : Nat → Prop} {i1 i2 : Nat} {spec : List Rq.Sp} (h1 : ∀ k, q1 k → k < w.heap.size) (h2 : ∀ k, q2 k → k < w.heap.size) (hd : ∀ k, q1 k → q2 k → False)
    (hs : ∀ s ∈ spec, s.own = Rq.free ∨ (s.ix = i1 ∧ s.own = q1) ∨ (s.ix = i2 ∧ s.own = q2)) (hi : i1 ≠ i2) : Rq.Own (fun k => k < w.heap.size ∧ ¬ q1 k ∧ ¬ q2 k) w spec :=
  ⟨fun k hk => hk.1, fun j s hj k hk => by
    rcases hs s (Rq.look_mem hj).1 with h | ⟨_, h⟩ | ⟨_, h⟩
    · rw [h] at hk; exact hk.elim
    · rw [h] at hk; exact ⟨fun hp => hp.2.1 hk, h1 k hk⟩
    · rw [h] at hk; exact ⟨fun hp => hp.2.2 hk, h2 k hk⟩, fun j m s t hj hm hne k hk hk' => by
    obtain ⟨a1, a2⟩ := Rq.look_mem hj
    obtain ⟨b1, b2⟩ := Rq.look_mem hm
    rcases hs s a1 with h | ⟨e1, h⟩ | ⟨e1, h⟩
    · rw [h] at hk; exact hk
    · rcases hs t b1 with g | ⟨e2, g⟩ | ⟨e2, g⟩
      · rw [g] at hk'; exact hk'
      · exact hne (by rw [← a2, ← b2, e1, e2])
      · rw [h] at hk; rw [g] at hk'; exact hd k hk hk'
    · rcases hs t b1 with g | ⟨e2, g⟩ | ⟨e2, g⟩
      · rw [g] at hk'; exact hk'
      · rw [h] at hk; rw [g] at hk'; exact hd k hk' hk
      · exact hne (by rw [← a2, ← b2, e1, e2])⟩
end Cad
end Go.Proofs.Ytmkoiddfkanmiaa

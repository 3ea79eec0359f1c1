/- Slices of [32]byte: cut, read. -/
import Derived.Test.YtmonkggoilhngaaGreatDoorGConcW
import Derived.Test.YtmonkggoilhngaaGreatDoorGShaD
import Derived.Test.YtmonkggoilhngaaGreatDoorGPerm
import Derived.Test.YtmonkggoilhngaaGreatDoorGSlM
import Derived.Test.YtmonkggoilhngaaGreatDoorGCadJ
import Derived.Test.YtmonkggoilhngaaGreatDoorConE
import Derived.Test.YtmonkggoilhngaaGreatDoorTenF
namespace Go.Proofs.YtmonkggoilhngaaGreatDoor
open Go.RowKit Bits Mem Sha
namespace Ref
def All32 (L : List (List UInt8)) : Prop := ∀ x ∈ L, x.length = 32
section
variable {L M : List (List UInt8)}
theorem All32.flat : ∀ {L : List (List UInt8)}, All32 L → L.flatten.length = L.length * 32
  | [], _ => rfl
  | x :: L, h => by
    have h1 := h x (by simp)
    have h2 := All32.flat (L := L) (fun y hy => h y (by simp [hy]))
    simp only [List.flatten_cons, List.length_append, List.length_cons, h1, h2]; omega
theorem All32.take (h : All32 L) (k : Nat) : All32 (L.take k) := fun x hx => h x (List.mem_of_mem_take hx)
theorem All32.getD (h : All32 L) {k : Nat} (hk : k < L.length) : (L.getD k []).length = 32 := by
  have : L.getD k [] = L[k] := by simp [List.getD, hk]
  rw [this]; exact h _ (List.getElem_mem hk)
theorem All32.append (h : All32 L) (h' : All32 M) : All32 (L ++ M) := fun x hx => by
  rcases List.mem_append.1 hx with hx | hx
  · exact h x hx
  · exact h' x hx
theorem All32.one {x : List UInt8} (h : x.length = 32) : All32 [x] := fun y hy => by simp at hy; rw [hy]; exact h
theorem flat_get : ∀ {L : List (List UInt8)} (k : Nat), All32 L → k < L.length → ∀ j, j < 32 → L.flatten[k * 32 + j]? = (L.getD k [])[j]?
  | x :: L, 0, h, _, j, hj => by
    have := h x (by simp)
    simp only [List.flatten_cons, Nat.zero_mul, Nat.zero_add, List.getD_cons_zero]
    rw [List.getElem?_append_left (by omega)]
  | x :: L, k + 1, h, hk, j, hj => by
    have h1 := h x (by simp)
    have h2 := flat_get (L := L) k (fun y hy => h y (by simp [hy])) (by simpa using hk) j hj
    simp only [List.flatten_cons, List.getD_cons_succ]
    rw [List.getElem?_append_right (by omega), ← h2]
    congr 1
    omega
theorem flat_take : ∀ {L : List (List UInt8)} (k : Nat), All32 L → (L.take k).flatten = L.flatten.take (k * 32)
  | [], _, _ => by simp
  | x :: L, 0, _ => by simp
  | x :: L, k + 1, h => by
    have h1 := h x (by simp)
    have h2 := flat_take (L := L) k (fun y hy => h y (by simp [hy]))
    simp only [List.take_succ_cons, List.flatten_cons, h2]
    have e : List.take ((k + 1) * 32) x = x := List.take_of_length_le (by omega)
    rw [List.take_append, e, h1, show (k + 1) * 32 - 32 = k * 32 by omega]
theorem take_get (k : Nat) (hk : k < L.length) : L.take (k + 1) = L.take k ++ [L.getD k []] := by
  rw [List.take_succ_eq_append_getElem hk]; simp [List.getD, hk]
/-- A slice of [32]byte that reads as a list. -/
def RdL (w : World) (v : Value) (L : List (List UInt8)) : Prop := All32 L ∧ Rd w 32 v L.length (bys L.flatten)
def OwL (w : World) (base : Nat) (v : Value) (L : List (List UInt8)) : Prop := All32 L ∧ Ow w base 22 32 v L.length (bys L.flatten)
variable {w w' : World} {v : Value} {base : Nat}
theorem RdL.below (h : RdL w v L) (hb : Below w.heap.size w w') : RdL w' v L := ⟨h.1, h.2.below hb⟩
theorem OwL.below (h : OwL w base v L) (hb : Below w.heap.size w w') : OwL w' base v L := ⟨h.1, h.2.below hb⟩
theorem OwL.rd (h : OwL w base v L) : RdL w v L := ⟨h.1, Rd.of_ow h.2⟩
theorem RdL.cut {q : Option Addr} {c k : Nat} (h : RdL w (.slice q L.length c) L) (hk : k ≤ L.length) : Rd w 32 (.slice q k c) k (bys (L.take k).flatten) := by
  obtain ⟨h1, h2⟩ := h.2
  have hf := h.1.flat
  refine ⟨by rw [bys_length, (h.1.take k).flat, List.length_take]; omega, ?_⟩
  rcases h2 with ⟨hv, h0⟩ | ⟨b, off, cap, hv, hb, hnc, hcm, hc⟩
  · injection hv with hq hl hcc
    exact .inl ⟨by rw [show k = 0 by omega, hq, hcc], by omega⟩
  · injection hv with hq hl hcc
    subst hq hcc
    refine .inr ⟨b, off, c, rfl, hb, by omega, hcm, fun j u hu => hc j u ?_⟩
    rw [← hu]
    have hj := (List.getElem?_eq_some_iff.1 hu).1
    rw [bys_length, (h.1.take k).flat, List.length_take] at hj
    rw [flat_take k h.1]
    simp only [bys, List.getElem?_map, List.getElem?_take]
    rw [if_pos (by omega)]
theorem RdL.cut' {q : Option Addr} {c k : Nat} (h : RdL w (.slice q L.length c) L) (hk : k ≤ L.length) : RdL w (.slice q k c) (L.take k) :=
  ⟨h.1.take k, by have := h.cut hk; rwa [show (L.take k).length = k by rw [List.length_take]; omega]⟩
/-- One of them, loaded. -/
theorem RdL.load {q : Option Addr} {c k : Nat} (h : RdL w (.slice q L.length c) L) (hk : k < L.length) :
    ∃ b off, q = some ⟨b, off, none⟩ ∧ b < w.heap.size ∧ L.length ≤ c ∧ c ≤ maxLen ∧ ∀ x, Below w.heap.size w x → (Instr.loadAt 22 (.pointer (some ⟨b, off + k * 32, none⟩))).run Tryz.prog x = .ok (.agg (bysA (L.getD k []))) x := by
  obtain ⟨b, off, rfl, hb, hnc, hcm, hc⟩ := Rd_lt h.2 (by omega)
  refine ⟨b, off, rfl, hb, hnc, hcm, fun x hx => ?_⟩
  have hl := h.1.getD hk
  refine run_loadAt_mid x b (off + k * 32) _ (bys (L.getD k [])) _ (fun j u hu => ?_) Tryz.underlying22 rfl (by rw [bys_length, hl]; exact info32)
  have hj := (List.getElem?_eq_some_iff.1 hu).1
  rw [bys_length, hl] at hj
  rw [Nat.add_assoc]
  refine (hx.cell (p := ⟨b, off + (k * 32 + j), none⟩) hb).trans (hc (k * 32 + j) u ?_)
  rw [← hu]
  simp only [bys, List.getElem?_map]
  rw [flat_get k h.1 hk j hj]
end
theorem fill_get : ∀ (l : List Value) (k : Nat) (z : Array Value) (j : Nat), (List.foldl (fun (cs : Array Value) (x : Value × Nat) => cs.setIfInBounds x.2 x.1) z (l.zipIdx k))[j]? = if k ≤ j ∧ j < k + l.length ∧ j < z.size then l[j - k]? else z[j]?
  | [], k, z, j => by simp; intro h1 h2; omega
  | v :: l, k, z, j => by
    rw [List.zipIdx_cons, List.foldl_cons, fill_get l (k + 1) _ j]
    simp only [Array.size_setIfInBounds, List.length_cons]
    by_cases hj : j = k
    · subst hj
      rw [if_neg (by omega)]
      by_cases hs : j < z.size
      · rw [if_pos (by omega)]; simp [hs]
      · rw [if_neg (by omega)]; simp [hs]
    · by_cases h2 : k + 1 ≤ j ∧ j < k + 1 + l.length ∧ j < z.size
      · rw [if_pos h2, if_pos (by omega), show j - k = (j - (k + 1)) + 1 by omega]; simp
      · rw [if_neg h2, if_neg (by omega), Array.getElem?_setIfInBounds_ne (by omega)]
/-- A literal's cells, where an element has many. -/
theorem fill_all (c z : Array Value) (h : c.size = z.size) : Array.foldl (fun (cs : Array Value) (x : Value × Nat) => cs.setIfInBounds x.2 x.1) z c.zipIdx 0 c.size = c := by
  have e : Array.foldl (fun (cs : Array Value) (x : Value × Nat) => cs.setIfInBounds x.2 x.1) z c.zipIdx 0 c.size = List.foldl (fun (cs : Array Value) (x : Value × Nat) => cs.setIfInBounds x.2 x.1) z (c.toList.zipIdx 0) := by
    have hs : c.size = c.zipIdx.size := by simp
    rw [hs, ← Array.foldl_toList]
    simp
  rw [e]
  apply Array.ext_getElem?
  intro j
  rw [fill_get]
  by_cases hj : j < c.size
  · rw [if_pos (by simp; omega)]; simp
  · rw [if_neg (by simp; omega), Array.getElem?_eq_none (by omega), Array.getElem?_eq_none (by omega)]
theorem infoA32 : (Tryz.prog.info? 22).map (fun i => (i.zero, i.size, i.bytes)) = some (some (.agg (bysA zeros32)), 32, 32) := by kernel_rfl
end Ref
end Go.Proofs.YtmonkggoilhngaaGreatDoor
/- The walk of a directory's New: what it yields lies in new blocks. -/
namespace Go.Proofs.YtmonkggoilhngaaGreatDoor
open Go.RowKit Bits Mem Sha
theorem Re.own_set {w : World} {q : Nat → Prop} {i : Nat} {spec : List Re.Sp} (hq : ∀ k, q k → k < w.heap.size) (h : ∀ s ∈ spec, s.own = Re.free ∨ (s.ix = i ∧ s.own = q)) : Re.Own (fun k => k < w.heap.size ∧ ¬ q k) w spec :=
  ⟨fun k hk => hk.1, fun j s hs k hk => by
    rcases h s (Re.look_mem hs).1 with h | ⟨_, h⟩
    · rw [h] at hk; exact hk.elim
    · rw [h] at hk; exact ⟨fun hp => hp.2 hk, hq k hk⟩, fun j m s t hs ht hne k hk hk' => by
    obtain ⟨hs1, hs2⟩ := Re.look_mem hs
    obtain ⟨ht1, ht2⟩ := Re.look_mem ht
    rcases h s hs1 with h1 | ⟨h1, _⟩
    · rw [h1] at hk; exact hk
    · rcases h t ht1 with h2 | ⟨h2, _⟩
      · rw [h2] at hk'; exact hk'
      · exact hne (by rw [← hs2, ← ht2, h1, h2])⟩
theorem Mem.l_makeMap {P : Program} {ops : Array Oper} {Q : Exit → Act → World → Prop} {a : Act} {w : World} {o : Oper} {rest : List Oper} (hg : o.guard = none) (t : TypeId) (ho : o.op = .makeMap t none)
    (h : wpList P ops Q rest (a.put o.dst (.map (some w.heap.size))) (w.alloc (.map #[] 0))) : wpList P ops Q (o :: rest) a w :=
  wpList_plain hg fun K hK => by
    have hr : (Instr.makeMap t none).run P w = .ok (.map (some w.heap.size)) (w.alloc (.map #[] 0)) := rfl
    unfold Oper.wp execOp
    simp only [ho, Option.map_none, Sem.run_bind, hr, Result.andThen_ok, Sem.run_pure]
    exact hK _ _ h
namespace Rc
section
variable {P : Program} {ops : Array Oper} {Q : Exit → Act → World → Prop} {B : Nat} {w : World} {spec : List Sp} {fin : List Nat} {tail : List Oper} {p : Nat → Par} {j : Nat} {o : Oper} {r : List Oper} {a : Act}
theorem r_buildT (hl : look spec j = none) (hw : Region.wanted o (yielded ops a.tmps) = true) (t : TypeId) (parts : Array (Nat × Operand)) (ho : o.op = .build t parts) (cs : Array Value)
    (hb : P.built t (parts.map fun (i, x) => (i, a.eval x)).toList = some cs)
    (h : ∀ K : Act → Prop, (∀ a, wpSeq P ops Q B w spec fin tail p (j + 1) r a → K a) → K (a.put o.dst (.agg cs))) : wpSeq P ops Q B w spec fin tail p j (o :: r) a :=
  r_run _ hl hw (fun x _ => by unfold execOp; simp only [ho, Sem.run_bind, run_build x t _ cs hb, Result.andThen_ok, Sem.run_pure]) h
end
end Rc
namespace Ten
theorem z32T : (#[.int .u8 0, .int .u8 0, .int .u8 0, .int .u8 0, .int .u8 0, .int .u8 0, .int .u8 0, .int .u8 0, .int .u8 0, .int .u8 0, .int .u8 0, .int .u8 0, .int .u8 0, .int .u8 0, .int .u8 0, .int .u8 0, .int .u8 0, .int .u8 0, .int .u8 0, .int .u8 0, .int .u8 0, .int .u8 0, .int .u8 0, .int .u8 0, .int .u8 0, .int .u8 0, .int .u8 0, .int .u8 0, .int .u8 0, .int .u8 0, .int .u8 0, .int .u8 0] : Array Value) = bysA zeros32 := rfl
/-- The sums of the log. -/
def nodeS (a b : List UInt8) : List UInt8 := sha (1 :: (a ++ b))
def leafS (l : List UInt8) : List UInt8 := sha (0 :: l)
theorem lit2T (w : World) (a b : List UInt8) (x y : Value) (hx : ∃ q c, x = .slice q a.length c ∧ Rd w 1 (.slice q a.length c) a.length (bys a)) (hy : ∃ q c, y = .slice q b.length c ∧ Rd w 1 (.slice q b.length c) b.length (bys b)) :
    Parts (w.alloc (.cells #[x, y] 23)) (.slice (some ⟨w.heap.size, 0, none⟩) 2 2) [a, b] := by
  have hb : Below w.heap.size w (w.alloc (.cells #[x, y] 23)) := (Below.refl _ _).alloc (Nat.le_refl _) _
  refine ⟨[x, y], Rd_lit w #[x, y] 23 1 2 rfl (by decide), fun i hi => ?_⟩
  obtain ⟨q, c, rfl, hx⟩ := hx
  obtain ⟨q', c', rfl, hy⟩ := hy
  match i, hi with
  | 0, _ => exact ⟨q, c, rfl, hx.below hb⟩
  | 1, _ => exact ⟨q', c', rfl, hy.below hb⟩
set_option maxRecDepth 100000 in
set_option maxHeartbeats 1000000 in
theorem firstT_any (q : Option Addr) (c : Nat) (l : List UInt8) (w : World) (hS : Sha.Tabs w) (hl : Rd w 1 (.slice q l.length c) l.length (bys l)) (h : l.length ≤ 1000000) :
    Calls Tryz.prog 52 #[.slice q l.length c] w fun e w' => e = .returned (.agg (bysA (sha (4 :: l)))) ∧ Below w.heap.size w w' := by
  have HS := Lib.hid hS
  have HL := Lib.hid hl
  clear hS hl
  go_enter Tryz.func52, Tryz.ntmps52
  go_wp2_with fail
  rw [z32T]
  have hrz : (w.alloc (.cells (bysA zeros32) 22)).heap[w.heap.size]? = some (.cells (bysA zeros32) 22 (0, 0)) := Rg.heap_alloc_at w _ _ rfl
  have hw1 : Below w.heap.size w (w.alloc (.cells (bysA zeros32) 22)) := (Below.refl _ _).alloc (Nat.le_refl _) _
  obtain ⟨w1, hw1e⟩ : ∃ w1, w1 = w.alloc (.cells (bysA zeros32) 22) := ⟨_, rfl⟩
  have hs1 : w1.heap.size = w.heap.size + 1 := by rw [hw1e]; simp
  rw [← hw1e] at hrz hw1
  rw [← hw1e]
  have hx2 : Below w1.heap.size w1 (w1.alloc (.cells #[.int .u8 4] 5)) := (Below.refl _ _).alloc (Nat.le_refl _) _
  have hr4 : Rd (w1.alloc (.cells #[.int .u8 4] 5)) 1 (.slice (some ⟨w1.heap.size, 0, none⟩) 1 1) 1 (bys [4]) := Rd_lit w1 #[.int .u8 4] 5 1 1 rfl (by decide)
  obtain ⟨w2, hw2e⟩ : ∃ w2, w2 = w1.alloc (.cells #[.int .u8 4] 5) := ⟨_, rfl⟩
  have hs2 : w2.heap.size = w.heap.size + 1 + 1 := by rw [hw2e, World.size_alloc, hs1]
  rw [← hw2e] at hx2 hr4
  rw [← hw2e, ← hs2, ← hs1]
  have h2 : Below w.heap.size w w2 := hw1.trans (hx2.mono hw1.size)
  have hp := lit2T w2 [4] l _ _ ⟨_, _, rfl, hr4⟩ ⟨_, _, rfl, HL.out.below h2⟩
  have hx3 : Below w2.heap.size w2 (w2.alloc (.cells #[.slice (some ⟨w1.heap.size, 0, none⟩) 1 1, .slice q l.length c] 23)) := (Below.refl _ _).alloc (Nat.le_refl _) _
  have hs := parts_any _ _ [[4], l] _ (HS.out.below (h2.trans (hx3.mono h2.size))) hp (by simp; omega)
  rw [show [[4], l].flatten = 4 :: l from by simp] at hs
  have HB2 := Lib.hid h2
  have HX3 := Lib.hid hx3
  have HRZ := Lib.hid (Rp.row_le hx2 hrz)
  clear hw1e hw2e hs1 hs2 hp hrz hw1 hx2 hr4 h2 hx3
  refine hs.mono ?_
  clear hs
  rintro e w3 ⟨rfl, hb3⟩
  have h23 : Below w2.heap.size w2 w3 := HX3.out.trans (hb3.mono HX3.out.size)
  have HB3 := Lib.hid (HB2.out.trans (h23.mono HB2.out.size))
  have HRZ3 := Lib.hid (Rp.row_le h23 HRZ.out)
  have HM := Lib.hid (sha_length (4 :: l))
  obtain ⟨R, hR⟩ : ∃ R, R = sha (4 :: l) := ⟨_, rfl⟩
  rw [← hR] at HM ⊢
  have HRR : Hid (R = sha (4 :: l)) := Lib.hid hR
  have HIM : Hid ((Tryz.prog.info? 22).map (·.size) = some (bysA R).size) := Lib.hid (by rw [bysA_size, HM.out]; exact info32)
  clear hR hb3 h23 HX3 HRZ
  go_wp2_with (refine Rg.store_row rfl 22 _ _ rfl w.heap.size rfl 22 (bysA zeros32) (bysA R) rfl HRZ3.out HIM.out (by rw [bysA_size, bysA_size, HM.out]; rfl) (bysA_one _) ?_)
  refine bodyPost_ret (v := .agg (bysA R)) (results_cell_row (P := Tryz.prog) rfl _ _ w.heap.size 22 (bysA R) (0, 0) _ rfl (setRow_heap _ _ _ _ 22 _ HRZ3.out) Tryz.underlying22 rfl HIM.out) rfl ⟨by rw [HRR.out], ?_⟩
  exact Rg.below_setRow HB3.out (Nat.le_refl _) _
/-- Is a number of a range? -/
def inB (n m : Int) : Bool := decide (1 ≤ n ∧ n ≤ m)
/-- A new directory's cells. -/
def dirA (q : Option Addr) (n c : Nat) (K : List UInt8) (m : Nat) : Array Value := #[.slice q n c] ++ bysA K ++ #[.int .i64 1, .int .i64 1, .int .i64 1, .map (some m), .slice none 0 0, .slice none 0 0, .slice none 0 0, .slice none 0 0]
theorem range_list64 (s : List UInt8) (h : s.length = 64) : (List.range 64).map (fun i => s.getD i 0) = s := by
  refine List.ext_getElem? fun j => ?_
  by_cases hj : j < 64
  · rw [List.getElem?_map, List.getElem?_range hj]
    simp [List.getElem?_eq_getElem (show j < s.length by omega)]
  · rw [List.getElem?_eq_none (by simp; omega), List.getElem?_eq_none (by omega)]
theorem dirA_size (q : Option Addr) (n c m : Nat) (K : List UInt8) (h : K.length = 64) : (dirA q n c K m).size = 73 := by simp [dirA, bysA_size, h]
theorem infoLink : (Tryz.prog.info? 22).map (fun i => (i.zero, i.size, i.bytes)) = some (some (.agg (bysA zeros32)), 32, 32) := by kernel_rfl
theorem infoU8T : (Tryz.prog.info? 5).map (fun i => (i.zero, i.size, i.bytes)) = some (some (.int .u8 0), 1, 1) := by kernel_rfl
set_option maxRecDepth 100000 in
set_option maxHeartbeats 1000000 in
theorem clone_any (q : Option Addr) (c : Nat) (l : List UInt8) (w : World) (hl : Rd w 1 (.slice q l.length c) l.length (bys l)) (h : l.length ≤ 1000000) :
    Calls Tryz.prog 22 #[.slice q l.length c] w fun e w' => ∃ q' c', e = .returned (.slice q' l.length c') ∧ Ow w' w.heap.size 5 1 (.slice q' l.length c') l.length (bys l) ∧ Below w.heap.size w w' := by
  obtain ⟨i0, hi0, hz0, hz1, hz2⟩ := parts3M infoU8T
  have HL := Lib.hid hl
  clear hl
  cases q with
  | none =>
    obtain ⟨hl0, hc0⟩ : l = [] ∧ c = 0 := by
      rcases HL.out.2 with ⟨hv, h0⟩ | ⟨b, off, cap, hv, _⟩
      · injection hv with _ h1 h2; exact ⟨List.eq_nil_of_length_eq_zero h1, h2⟩
      · cases hv
    subst hl0 hc0
    have he : ∀ w : World, (binOp .eql 23 (.slice none 0 0) (.slice none 0 0)).run Tryz.prog w = .ok (.bool true) w := fun _ => rfl
    go_enter Tryz.func22, Tryz.ntmps22
    go_wp2_with fail
    go_ret
    exact ⟨none, 0, rfl, Ow.nil _ _ _ _, Below.refl _ _⟩
  | some a =>
    obtain ⟨wl, hwl⟩ : ∃ wl, wl = w.alloc (.cells #[] 5) := ⟨_, rfl⟩
    have hbl : Below w.heap.size w wl := by rw [hwl]; exact (Below.refl _ _).alloc (Nat.le_refl _) _
    have HO0 : Hid (Ow wl w.heap.size 5 1 (.slice (some ⟨w.heap.size, 0, none⟩) 0 0) 0 []) := Lib.hid (by rw [hwl]; exact Ow.lit w #[] 5 1 0 w.heap.size (Nat.le_refl _) (Nat.zero_le _) rfl)
    have HLL := Lib.hid (HL.out.below hbl)
    have HBL := Lib.hid hbl
    have HWL := Lib.hid hwl
    have hsz := hbl.size
    have he : ∀ w : World, (binOp .eql 23 (.slice (some a) l.length c) (.slice none 0 0)).run Tryz.prog w = .ok (.bool false) w := fun _ => rfl
    clear hbl hwl
    go_enter Tryz.func22, Tryz.ntmps22
    go_wp2_with (at_builtin; go_must (rw [← HWL.out]); go_must (refine app_ow3 rfl _ _ 23 23 rfl w.heap.size 5 i0 (.int .u8 0) 1 1 Tryz.underlying23 hi0 hz0 hz1 hz2 (by rfl) _ 0 _ rfl HO0.out l.length _ rfl (Rd.src Tryz.underlying23 HLL.out (bys_one _)) (by unfold maxLen; omega) (by omega) hsz ?_); go_must (intro v4 w4 how4 hg4 hn4); go_must (obtain ⟨q4, c4, rfl⟩ := Ow_form how4); go_must (refine Hid.out ?_))
    refine Lib.hid ?_
    rw [Nat.zero_add] at how4 hn4
    rw [List.nil_append] at how4
    have HO := Lib.hid how4
    have HB : Hid (Below w.heap.size w w4) := Lib.hid (HBL.out.grown hg4 HBL.out.size (fun k hk => by cases hk; exact Nat.le_refl _))
    clear how4 hg4 hn4
    go_wp2_with fail
    go_ret
    exact ⟨q4, c4, rfl, HO.out, HB.out⟩
end Ten
end Go.Proofs.YtmonkggoilhngaaGreatDoor

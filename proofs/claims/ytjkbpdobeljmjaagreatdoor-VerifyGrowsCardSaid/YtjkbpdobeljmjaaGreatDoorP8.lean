/- A part of the proof. Plain; no condition. -/
import Derived.Test.YtjkbpdobeljmjaaGreatDoorP7
import Derived.Test.YtjkbpdobeljmjaaGreatDoorP5
/- Slices of [32]byte: cut, read. -/
namespace Go.Proofs.YtjkbpdobeljmjaaGreatDoor
open Go.RowKit Bits Mem Sha
namespace Ref
def All32 (L : List (List UInt8)) : Prop := ∀ x ∈ L, x.length = 32
section
variable {L M : List (List UInt8)}
theorem All32.flat : ∀ {L : List (List UInt8)}, All32 L → L.flatten.length = L.length * 32
  | [], _ => rfl
  | x :: L, h => by
    have h1 := h x (by simp)
    have h2 := All32.flat (L := L) (fun y hy => h y (by simp [hy]))
    simp only [List.flatten_cons, List.length_append, List.length_cons, h1, h2]; omega
theorem All32.take (h : All32 L) (k : Nat) : All32 (L.take k) := fun x hx => h x (List.mem_of_mem_take hx)
theorem All32.getD (h : All32 L) {k : Nat} (hk : k < L.length) : (L.getD k []).length = 32 := by
  have : L.getD k [] = L[k] := by simp [List.getD, hk]
  rw [this]; exact h _ (List.getElem_mem hk)
theorem All32.append (h : All32 L) (h' : All32 M) : All32 (L ++ M) := fun x hx => by
  rcases List.mem_append.1 hx with hx | hx
  · exact h x hx
  · exact h' x hx
theorem All32.one {x : List UInt8} (h : x.length = 32) : All32 [x] := fun y hy => by simp at hy; rw [hy]; exact h
theorem flat_get : ∀ {L : List (List UInt8)} (k : Nat), All32 L → k < L.length → ∀ j, j < 32 → L.flatten[k * 32 + j]? = (L.getD k [])[j]?
  | x :: L, 0, h, _, j, hj => by
    have := h x (by simp)
    simp only [List.flatten_cons, Nat.zero_mul, Nat.zero_add, List.getD_cons_zero]
    rw [List.getElem?_append_left (by omega)]
  | x :: L, k + 1, h, hk, j, hj => by
    have h1 := h x (by simp)
    have h2 := flat_get (L := L) k (fun y hy => h y (by simp [hy])) (by simpa using hk) j hj
    simp only [List.flatten_cons, List.getD_cons_succ]
    rw [List.getElem?_append_right (by omega), ← h2]
    congr 1
    omega
theorem flat_take : ∀ {L : List (List UInt8)} (k : Nat), All32 L → (L.take k).flatten = L.flatten.take (k * 32)
  | [], _, _ => by simp
  | x :: L, 0, _ => by simp
  | x :: L, k + 1, h => by
    have h1 := h x (by simp)
    have h2 := flat_take (L := L) k (fun y hy => h y (by simp [hy]))
    simp only [List.take_succ_cons, List.flatten_cons, h2]
    have e : List.take ((k + 1) * 32) x = x := List.take_of_length_le (by omega)
    rw [List.take_append, e, h1, show (k + 1) * 32 - 32 = k * 32 by omega]
def RdL (w : World) (v : Value) (L : List (List UInt8)) : Prop := All32 L ∧ Rd w 32 v L.length (bys L.flatten)
def OwL (w : World) (base : Nat) (v : Value) (L : List (List UInt8)) : Prop := All32 L ∧ Ow w base 22 32 v L.length (bys L.flatten)
variable {w w' : World} {v : Value} {base : Nat}
theorem RdL.below (h : RdL w v L) (hb : Below w.heap.size w w') : RdL w' v L := ⟨h.1, h.2.below hb⟩
theorem OwL.below (h : OwL w base v L) (hb : Below w.heap.size w w') : OwL w' base v L := ⟨h.1, h.2.below hb⟩
theorem OwL.rd (h : OwL w base v L) : RdL w v L := ⟨h.1, Rd.of_ow h.2⟩
theorem RdL.cut {q : Option Addr} {c k : Nat} (h : RdL w (.slice q L.length c) L) (hk : k ≤ L.length) : Rd w 32 (.slice q k c) k (bys (L.take k).flatten) := by
  obtain ⟨h1, h2⟩ := h.2
  have hf := h.1.flat
  refine ⟨by rw [bys_length, (h.1.take k).flat, List.length_take]; omega, ?_⟩
  rcases h2 with ⟨hv, h0⟩ | ⟨b, off, cap, hv, hb, hnc, hcm, hc⟩
  · injection hv with hq hl hcc
    exact .inl ⟨by rw [show k = 0 by omega, hq, hcc], by omega⟩
  · injection hv with hq hl hcc
    subst hq hcc
    refine .inr ⟨b, off, c, rfl, hb, by omega, hcm, fun j u hu => hc j u ?_⟩
    rw [← hu]
    have hj := (List.getElem?_eq_some_iff.1 hu).1
    rw [bys_length, (h.1.take k).flat, List.length_take] at hj
    rw [flat_take k h.1]
    simp only [bys, List.getElem?_map, List.getElem?_take]
    rw [if_pos (by omega)]
theorem RdL.cut' {q : Option Addr} {c k : Nat} (h : RdL w (.slice q L.length c) L) (hk : k ≤ L.length) : RdL w (.slice q k c) (L.take k) :=
  ⟨h.1.take k, by have := h.cut hk; rwa [show (L.take k).length = k by rw [List.length_take]; omega]⟩
theorem RdL.load {q : Option Addr} {c k : Nat} (h : RdL w (.slice q L.length c) L) (hk : k < L.length) :
    ∃ b off, q = some ⟨b, off, none⟩ ∧ b < w.heap.size ∧ L.length ≤ c ∧ c ≤ maxLen ∧ ∀ x, Below w.heap.size w x → (Instr.loadAt 22 (.pointer (some ⟨b, off + k * 32, none⟩))).run Tryz.prog x = .ok (.agg (bysA (L.getD k []))) x := by
  obtain ⟨b, off, rfl, hb, hnc, hcm, hc⟩ := Rd_lt h.2 (by omega)
  refine ⟨b, off, rfl, hb, hnc, hcm, fun x hx => ?_⟩
  have hl := h.1.getD hk
  refine run_loadAt_mid x b (off + k * 32) _ (bys (L.getD k [])) _ (fun j u hu => ?_) Tryz.underlying22 rfl (by rw [bys_length, hl]; exact info32)
  have hj := (List.getElem?_eq_some_iff.1 hu).1
  rw [bys_length, hl] at hj
  rw [Nat.add_assoc]
  refine (hx.cell (p := ⟨b, off + (k * 32 + j), none⟩) hb).trans (hc (k * 32 + j) u ?_)
  rw [← hu]
  simp only [bys, List.getElem?_map]
  rw [flat_get k h.1 hk j hj]
end
theorem fill_get : ∀ (l : List Value) (k : Nat) (z : Array Value) (j : Nat), (List.foldl (fun (cs : Array Value) (x : Value × Nat) => cs.setIfInBounds x.2 x.1) z (l.zipIdx k))[j]? = if k ≤ j ∧ j < k + l.length ∧ j < z.size then l[j - k]? else z[j]?
  | [], k, z, j => by simp; intro h1 h2; omega
  | v :: l, k, z, j => by
    rw [List.zipIdx_cons, List.foldl_cons, fill_get l (k + 1) _ j]
    simp only [Array.size_setIfInBounds, List.length_cons]
    by_cases hj : j = k
    · subst hj
      rw [if_neg (by omega)]
      by_cases hs : j < z.size
      · rw [if_pos (by omega)]; simp [hs]
      · rw [if_neg (by omega)]; simp [hs]
    · by_cases h2 : k + 1 ≤ j ∧ j < k + 1 + l.length ∧ j < z.size
      · rw [if_pos h2, if_pos (by omega), show j - k = (j - (k + 1)) + 1 by omega]; simp
      · rw [if_neg h2, if_neg (by omega), Array.getElem?_setIfInBounds_ne (by omega)]
theorem fill_all (c z : Array Value) (h : c.size = z.size) : Array.foldl (fun (cs : Array Value) (x : Value × Nat) => cs.setIfInBounds x.2 x.1) z c.zipIdx 0 c.size = c := by
  have e : Array.foldl (fun (cs : Array Value) (x : Value × Nat) => cs.setIfInBounds x.2 x.1) z c.zipIdx 0 c.size = List.foldl (fun (cs : Array Value) (x : Value × Nat) => cs.setIfInBounds x.2 x.1) z (c.toList.zipIdx 0) := by
    have hs : c.size = c.zipIdx.size := by simp
    rw [hs, ← Array.foldl_toList]
    simp
  rw [e]
  apply Array.ext_getElem?
  intro j
  rw [fill_get]
  by_cases hj : j < c.size
  · rw [if_pos (by simp; omega)]; simp
  · rw [if_neg (by simp; omega), Array.getElem?_eq_none (by omega), Array.getElem?_eq_none (by omega)]
theorem infoA32 : (Tryz.prog.info? 22).map (fun i => (i.zero, i.size, i.bytes)) = some (some (.agg (bysA zeros32)), 32, 32) := by kernel_rfl
end Ref
end Go.Proofs.YtjkbpdobeljmjaaGreatDoor

/- The walks of rfclog.EntrySum, node, half. -/
namespace Go.Proofs.YtjkbpdobeljmjaaGreatDoor
open Go.RowKit Bits Mem Sha
namespace Ref
theorem z32r : (#[.int .u8 0, .int .u8 0, .int .u8 0, .int .u8 0, .int .u8 0, .int .u8 0, .int .u8 0, .int .u8 0, .int .u8 0, .int .u8 0, .int .u8 0, .int .u8 0, .int .u8 0, .int .u8 0, .int .u8 0, .int .u8 0, .int .u8 0, .int .u8 0, .int .u8 0, .int .u8 0, .int .u8 0, .int .u8 0, .int .u8 0, .int .u8 0, .int .u8 0, .int .u8 0, .int .u8 0, .int .u8 0, .int .u8 0, .int .u8 0, .int .u8 0, .int .u8 0] : Array Value) = bysA zeros32 := rfl
def nodeS (a b : List UInt8) : List UInt8 := sha (1 :: (a ++ b))
def leafS (l : List UInt8) : List UInt8 := sha (0 :: l)
theorem nodeS_length (a b : List UInt8) : (nodeS a b).length = 32 := sha_length _
theorem leafS_length (l : List UInt8) : (leafS l).length = 32 := sha_length _
def treeS (L : List (List UInt8)) : List UInt8 := Rfc.mth nodeS (sha []) L
theorem treeS_length (L : List (List UInt8)) (h : ∀ x ∈ L, x.length = 32) : (treeS L).length = 32 := by
  unfold treeS
  rw [Rfc.mth]
  split
  · exact nodeS_length _ _
  · match L, h with
    | [], _ => exact sha_length _
    | x :: _, h => exact h x (List.mem_cons_self)
theorem Rp3.row {w : World} {g n : Nat} {l : List UInt8} {t : TypeId} {f : Nat × Nat} (h : w.heap[g]? = some (.cells (bysA l) t f)) (hn : l.length = n) (hm : n ≤ maxLen) : Rd w 1 (.slice (some ⟨g, 0, none⟩) n n) n (bys l) := by
  subst hn
  refine ⟨by rw [bys_length]; omega, .inr ⟨g, 0, l.length, rfl, lt_of_heap h, Nat.le_refl _, hm, fun j u hu => ?_⟩⟩
  rw [Nat.zero_add, cell_of_row w g j _ _ _ h]
  simpa [bysA] using hu
theorem Rp3.lit2 (w : World) (a b : List UInt8) (x y : Value) (hx : ∃ q c, x = .slice q a.length c ∧ Rd w 1 (.slice q a.length c) a.length (bys a)) (hy : ∃ q c, y = .slice q b.length c ∧ Rd w 1 (.slice q b.length c) b.length (bys b)) :
    Parts (w.alloc (.cells #[x, y] 31)) (.slice (some ⟨w.heap.size, 0, none⟩) 2 2) [a, b] := by
  have hb : Below w.heap.size w (w.alloc (.cells #[x, y] 31)) := (Below.refl _ _).alloc (Nat.le_refl _) _
  refine ⟨[x, y], Rd_lit w #[x, y] 31 1 2 rfl (by decide), fun i hi => ?_⟩
  obtain ⟨q, c, rfl, hx⟩ := hx
  obtain ⟨q', c', rfl, hy⟩ := hy
  match i, hi with
  | 0, _ => exact ⟨q, c, rfl, hx.below hb⟩
  | 1, _ => exact ⟨q', c', rfl, hy.below hb⟩
theorem Rp3.of3 {w : World} {v x y z : Value} {a b c : List UInt8} (h : Rd w 1 v 3 [x, y, z]) (hx : ∃ q c, x = .slice q a.length c ∧ Rd w 1 (.slice q a.length c) a.length (bys a)) (hy : ∃ q c, y = .slice q b.length c ∧ Rd w 1 (.slice q b.length c) b.length (bys b)) (hz : ∃ q k, z = .slice q c.length k ∧ Rd w 1 (.slice q c.length k) c.length (bys c)) : Parts w v [a, b, c] := by
  refine ⟨[x, y, z], h, fun i hi => ?_⟩
  obtain ⟨q, k, rfl, hx⟩ := hx
  obtain ⟨q2, k2, rfl, hy⟩ := hy
  obtain ⟨q3, k3, rfl, hz⟩ := hz
  match i, hi with
  | 0, _ => exact ⟨_, _, rfl, hx⟩
  | 1, _ => exact ⟨_, _, rfl, hy⟩
  | 2, _ => exact ⟨_, _, rfl, hz⟩
set_option maxRecDepth 100000 in
set_option maxHeartbeats 4000000 in
theorem entrySum_any (q : Option Addr) (c : Nat) (l : List UInt8) (w : World) (hS : Sha.Tabs w) (hl : Rd w 1 (.slice q l.length c) l.length (bys l)) (h : l.length ≤ 1000000) :
    Calls Tryz.prog 69 #[.slice q l.length c] w fun e w' => e = .returned (.agg (bysA (leafS l))) ∧ Below w.heap.size w w' := by
  have HS := Lib.hid hS
  have HL := Lib.hid hl
  clear hS hl
  go_enter Tryz.func69, Tryz.ntmps69
  go_wp2_with fail
  rw [z32r]
  have hrz : (w.alloc (.cells (bysA zeros32) 22)).heap[w.heap.size]? = some (.cells (bysA zeros32) 22 (0, 0)) := Rg.heap_alloc_at w _ _ rfl
  have hw1 : Below w.heap.size w (w.alloc (.cells (bysA zeros32) 22)) := (Below.refl _ _).alloc (Nat.le_refl _) _
  obtain ⟨w1, hw1e⟩ : ∃ w1, w1 = w.alloc (.cells (bysA zeros32) 22) := ⟨_, rfl⟩
  have hs1 : w1.heap.size = w.heap.size + 1 := by rw [hw1e]; simp
  rw [← hw1e] at hrz hw1
  rw [← hw1e]
  have hx2 : Below w1.heap.size w1 (w1.alloc (.cells #[.int .u8 0] 5)) := (Below.refl _ _).alloc (Nat.le_refl _) _
  have hr4 : Rd (w1.alloc (.cells #[.int .u8 0] 5)) 1 (.slice (some ⟨w1.heap.size, 0, none⟩) 1 1) 1 (bys [0]) := Rd_lit w1 #[.int .u8 0] 5 1 1 rfl (by decide)
  obtain ⟨w2, hw2e⟩ : ∃ w2, w2 = w1.alloc (.cells #[.int .u8 0] 5) := ⟨_, rfl⟩
  have hs2 : w2.heap.size = w.heap.size + 1 + 1 := by rw [hw2e, World.size_alloc, hs1]
  rw [← hw2e] at hx2 hr4
  rw [← hw2e, ← hs2, ← hs1]
  have h2 : Below w.heap.size w w2 := hw1.trans (hx2.mono hw1.size)
  have hp := Rp3.lit2 w2 [0] l _ _ ⟨_, _, rfl, hr4⟩ ⟨_, _, rfl, HL.out.below h2⟩
  have hx3 : Below w2.heap.size w2 (w2.alloc (.cells #[.slice (some ⟨w1.heap.size, 0, none⟩) 1 1, .slice q l.length c] 31)) := (Below.refl _ _).alloc (Nat.le_refl _) _
  have hs := parts_any _ _ [[0], l] _ (HS.out.below (h2.trans (hx3.mono h2.size))) hp (by simp; omega)
  rw [show [[0], l].flatten = 0 :: l from by simp] at hs
  have HB2 := Lib.hid h2
  have HX3 := Lib.hid hx3
  have HRZ := Lib.hid (Rp.row_le hx2 hrz)
  clear hw1e hw2e hs1 hs2 hp hrz hw1 hx2 hr4 h2 hx3
  refine hs.mono ?_
  clear hs
  rintro e w3 ⟨rfl, hb3⟩
  have h23 : Below w2.heap.size w2 w3 := HX3.out.trans (hb3.mono HX3.out.size)
  have HB3 := Lib.hid (HB2.out.trans (h23.mono HB2.out.size))
  have HRZ3 := Lib.hid (Rp.row_le h23 HRZ.out)
  have HM := Lib.hid (sha_length (0 :: l))
  obtain ⟨R, hR⟩ : ∃ R, R = sha (0 :: l) := ⟨_, rfl⟩
  rw [← hR] at HM ⊢
  have HRR : Hid (R = leafS l) := Lib.hid hR
  have HIM : Hid ((Tryz.prog.info? 22).map (·.size) = some (bysA R).size) := Lib.hid (by rw [bysA_size, HM.out]; exact info32)
  clear hR hb3 h23 HX3 HRZ
  go_wp2_with (refine Rg.store_row rfl 22 _ _ rfl w.heap.size rfl 22 (bysA zeros32) (bysA R) rfl HRZ3.out HIM.out (by rw [bysA_size, bysA_size, HM.out]; rfl) (bysA_one _) ?_)
  refine bodyPost_ret (v := .agg (bysA R)) (results_cell_row (P := Tryz.prog) rfl _ _ w.heap.size 22 (bysA R) (0, 0) _ rfl (setRow_heap _ _ _ _ 22 _ HRZ3.out) Tryz.underlying22 rfl HIM.out) rfl ⟨by rw [HRR.out], ?_⟩
  exact Rg.below_setRow HB3.out (Nat.le_refl _) _
set_option maxRecDepth 100000 in
set_option maxHeartbeats 4000000 in
theorem node_any (a b : List UInt8) (w : World) (hS : Sha.Tabs w) (ha : a.length = 32) (hb : b.length = 32) :
    Calls Tryz.prog 25 #[.agg (bysA a), .agg (bysA b)] w fun e w' => e = .returned (.agg (bysA (nodeS a b))) ∧ Below w.heap.size w w' := by
  obtain ⟨wz, hwz⟩ : ∃ wz, wz = ((w.alloc (.cells (bysA a) 22)).alloc (.cells (bysA b) 22)).alloc (.cells (bysA zeros32) 22) := ⟨_, rfl⟩
  have hbz : Below w.heap.size w wz := by rw [hwz]; exact (((Below.refl _ _).alloc (Nat.le_refl _) _).alloc (by simp) _).alloc (by simp; omega) _
  have hra : wz.heap[w.heap.size]? = some (.cells (bysA a) 22 (0, 0)) := by rw [hwz]; exact (Rg.heap_alloc_past _ _ _ (by simp; omega)).trans ((Rg.heap_alloc_past _ _ _ (by simp)).trans (Rg.heap_alloc_at w _ _ rfl))
  have hrb : wz.heap[w.heap.size + 1]? = some (.cells (bysA b) 22 (0, 0)) := by rw [hwz]; exact (Rg.heap_alloc_past _ _ _ (by simp)).trans (Rg.heap_alloc_at _ _ _ (by simp))
  have hrz : wz.heap[w.heap.size + 1 + 1]? = some (.cells (bysA zeros32) 22 (0, 0)) := by rw [hwz]; exact Rg.heap_alloc_at _ _ _ (by simp)
  have HS := Lib.hid hS
  have HA := Lib.hid ha
  have HB := Lib.hid hb
  have HWZ := Lib.hid hwz
  have HBZ := Lib.hid hbz
  have HRA := Lib.hid hra
  have HRB := Lib.hid hrb
  have HRZ := Lib.hid hrz
  obtain ⟨M, hM⟩ : ∃ M, M = nodeS a b := ⟨_, rfl⟩
  have HME := Lib.hid hM
  have HML : Hid (M.length = 32) := Lib.hid (by rw [hM]; exact nodeS_length a b)
  have HIM : Hid ((Tryz.prog.info? 22).map (·.size) = some (bysA M).size) := Lib.hid (by rw [bysA_size, HML.out]; exact info32)
  clear hS ha hb hwz hbz hra hrb hrz hM
  go_enter Tryz.func25, Tryz.ntmps25
  go_wp2_with fail
  rw [z32r, ← HWZ.out]
  refine Rc.region (wz.heap.size) 5 [Rc.F 0 (fun p => .slice p.q 1 1) (fun p _ y => Rd y 1 (.slice p.q 1 1) 1 (bys [1])), ⟨3, [0], [], some (fun _ pj => .slice pj.q 3 3), fun p pj _ y => Rd y 1 (.slice pj.q 3 3) 3 [.slice (p 0).q 1 1, .slice (some ⟨w.heap.size, 0, none⟩) 32 32, .slice (some ⟨w.heap.size + 1, 0, none⟩) 32 32]⟩, Rc.G 4 [0, 3] (fun _ => .agg (bysA M)) (fun _ _ _ => True)] [] (by kernel_rfl) (Nat.le_refl _) (by kernel_rfl) ?_; intro p; simp only [List.take, List.drop]
  refine Rc.fK rfl rfl rfl rfl ?_ ?_
  · intro x Fs hx hle hg K hK
    have hlit : Rd (x.alloc (.cells #[.int .u8 1] 5)) 1 (.slice (some ⟨x.heap.size, 0, none⟩) 1 1) 1 (bys [1]) := Rd_lit x #[.int .u8 1] 5 1 1 rfl (by decide)
    go_wp2_with fail
    exact hK ⟨some ⟨x.heap.size, 0, none⟩, 1, undef⟩ _ ((Below.refl _ _).alloc (Nat.le_refl _) _) fun F y hF hy => hlit.keeps hy (fun k hk => .inr (by cases hk; exact hF _ (Nat.le_refl _) (by simp)))
  intro K hK; go_simp; refine hK _ ?_; clear hK K
  iterate 2 (refine Rc.rK rfl rfl ?_; intro K hK; apply Exists.intro; refine ⟨?_, ?_⟩; (focus (intro x hx;  go_simp; (first | (fail) | ((try go_bits); (try go_simp); (try rfl))))); go_simp; refine hK _ ?_; clear hK K)
  refine Rc.fK rfl rfl rfl rfl ?_ ?_
  · intro x Fs hx hle hg K hK
    have hlit := Rd_lit x #[.slice (p 0).q 1 1, .slice (some ⟨w.heap.size, 0, none⟩) 32 32, .slice (some ⟨w.heap.size + 1, 0, none⟩) 32 32] 31 1 3 rfl (by decide)
    go_wp2_with fail
    exact hK ⟨some ⟨x.heap.size, 0, none⟩, 3, undef⟩ _ ((Below.refl _ _).alloc (Nat.le_refl _) _) fun F y hF hy => hlit.keeps hy (fun k hk => .inr (by cases hk; exact hF _ (Nat.le_refl _) (by simp)))
  intro K hK; go_simp; refine hK _ ?_; clear hK K
  refine Rc.fK rfl rfl rfl rfl ?_ ?_
  · intro x Fs hx hle hg K hK
    have hbx := HBZ.out.trans ((Rc.undrew hx).mono HBZ.out.size)
    have h0 : Rd x 1 (.slice (p 0).q 1 1) 1 (bys [1]) := hg.1
    have h3 : Rd x 1 (.slice (p 3).q 3 3) 3 [.slice (p 0).q 1 1, .slice (some ⟨w.heap.size, 0, none⟩) 32 32, .slice (some ⟨w.heap.size + 1, 0, none⟩) 32 32] := hg.2.1
    have hra := Rp3.row (Rp.row_le (Rc.undrew hx) HRA.out) HA.out (by decide)
    have hrb := Rp3.row (Rp.row_le (Rc.undrew hx) HRB.out) HB.out (by decide)
    have hpt : Parts x (.slice (p 3).q 3 3) [[1], a, b] := Rp3.of3 h3 ⟨_, _, rfl, h0⟩ ⟨_, _, by rw [HA.out], by rw [HA.out]; exact hra⟩ ⟨_, _, by rw [HB.out], by rw [HB.out]; exact hrb⟩
    have hof := parts_any (p 3).q 3 [[1], a, b] x (HS.out.below hbx) hpt (by simp [HA.out, HB.out])
    rw [show [[1], a, b].flatten = 1 :: (a ++ b) by simp] at hof
    have HOF := Lib.hid (show Calls Tryz.prog _ _ _ (fun e w' => e = .returned (.agg (bysA M)) ∧ Below x.heap.size x w') by rw [HME.out]; exact hof)
    clear hof hg h0 h3 hra hrb hpt
    go_wp2_with fail
    refine HOF.out.mono ?_
    rintro e x' ⟨rfl, hb⟩
    go_wp2_with fail
    exact hK Rc.dflt x' hb (fun _ _ _ _ => trivial)
  intro K hK; go_simp; refine hK _ ?_; clear hK K
  refine Rc.done fun x Fs hx hle hg => ?_
  have HRZX := Lib.hid (Rp.row_le (Rc.undrew hx) HRZ.out)
  have HBX := Lib.hid (HBZ.out.trans ((Rc.undrew hx).mono HBZ.out.size))
  clear hx hle hg
  go_wp2_with (refine Rg.store_row rfl 22 _ _ rfl (w.heap.size + 1 + 1) rfl 22 (bysA zeros32) (bysA M) rfl HRZX.out HIM.out (by rw [bysA_size, bysA_size, HML.out]; rfl) (bysA_one _) ?_)
  refine NoPanic.normal ?_
  go_wp2_with fail
  refine bodyPost_ret (v := .agg (bysA M)) (results_cell_row (P := Tryz.prog) rfl _ _ (w.heap.size + 1 + 1) 22 (bysA M) (0, 0) _ rfl (setRow_heap _ _ _ _ 22 _ HRZX.out) Tryz.underlying22 rfl HIM.out) rfl ⟨by rw [HME.out], ?_⟩
  exact Rg.below_setRow HBX.out (by omega) _
set_option maxRecDepth 100000 in
set_option maxHeartbeats 1000000 in
theorem half_any (n : Nat) (w : World) (h2 : 2 ≤ n) (hn : n ≤ 9223372036854775807) :
    Calls Tryz.prog 228 #[.int .i64 n] w fun e w' => e = .returned (.int .i64 (Rfc.hf n : Nat)) ∧ w' = w := by
  go_enter Tryz.func228, Tryz.ntmps228
  go_wp2
  go_loopw [3] (fun k wr => ∃ K j : Nat, k = .int .i64 K ∧ Hid (K = 2 ^ j) ∧ 1 ≤ K ∧ K < n ∧ wr = w) (fun k _ => n - (intOf k).toNat)
  case atStart => exact ⟨1, 0, rfl, Lib.hid rfl, by omega, by omega, rfl⟩
  case round =>
    obtain ⟨K, j, rfl, HK, h1, hkn, hw⟩ := hrel
    subst hw
    by_cases hlt : K < n - K
    · have hI : (K : Int) < (n : Int) - (K : Int) := by omega
      go_wp2
      exact ⟨⟨K * 2, j + 1, by go_num, Lib.hid (by rw [HK.out, Nat.pow_succ]), by omega, by omega, trivial⟩, by simp [intOf]; omega⟩
    · have hI : ¬ (K : Int) < (n : Int) - (K : Int) := by omega
      have HH : Hid (Rfc.hf n = K) := Lib.hid (by rw [HK.out]; exact Rfc.hf_unique n j h2 (by rw [← HK.out]; exact hkn) (by rw [← HK.out]; omega))
      go_wp2
      go_ret
      exact ⟨by rw [HH.out]; rfl, rfl⟩
end Ref
end Go.Proofs.YtjkbpdobeljmjaaGreatDoor


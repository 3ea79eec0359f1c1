/- Arguments opened: a Claim (two numbers, a slice of arrays of 32 bytes, two such arrays, a Bool). -/
import Derived.Test.YtkembhonfehlbaaDoorOpen
import Derived.Test.YtkembhonfehlbaaDoorRfcX
import Derived.Deep.Slices
namespace Go.Proofs.YtkembhonfehlbaaDoor
open Go.ChangeShapes Go.WideShapes Go.ChangeAt Go.RowKit Mem Sha Ref
namespace Wrap
section
variable {H : Type} {enc : TypeId × Value → H} {W : World} {base : Nat}
set_option maxRecDepth 100000 in
theorem trod_arr {P : Program} {n fuel : Nat} {t e : TypeId} {cs : List Value} {x : DataW H × List MemPlace} (ht : P.underlying t = some (.array n e)) (h : DataW.trod enc P W 0 (fun _ => true) true fuel t cs = some x) :
    cs.length = P.cellsOf t ∧ ∃ k, ∀ i, i < n → ∃ y, DataW.trod enc P W 0 (fun _ => true) true k e ((cs.drop (i * P.cellsOf e)).take (P.cellsOf e)) = some y := by
  cases fuel with
  | zero => simp [DataW.trod] at h
  | succ k =>
    unfold DataW.trod at h
    rw [ht] at h
    split at h <;> simp_all
    obtain ⟨_, xs, hxs, _⟩ := h
    refine ⟨k, fun i hi => ?_⟩
    have h1 := mapM_some_length hxs
    rw [List.length_range] at h1
    have := mapM_some_get hxs i i (by simp [hi])
    rw [List.getElem?_eq_getElem (by omega)] at this
    exact ⟨_, _, this⟩
set_option maxRecDepth 100000 in
theorem cells32 : Tryd.prog.cellsOf 22 = 32 := by kernel_rfl
set_option maxRecDepth 100000 in
theorem trod_arr32 {fuel : Nat} {cs : List Value} {x : DataW H × List MemPlace} (h : DataW.trod enc Tryd.prog W 0 (fun _ => true) true fuel 22 cs = some x) : ∃ l : List UInt8, cs = bys l ∧ l.length = 32 := by
  obtain ⟨h1, k, h2⟩ := trod_arr Tryd.underlying22 h
  rw [cells32] at h1
  obtain ⟨l, hl⟩ := bytes_of cs (fun v hv => by
    obtain ⟨i, hi⟩ := List.mem_iff_getElem?.1 hv
    have hlt := (List.getElem?_eq_some_iff.1 hi).1
    obtain ⟨y, hy⟩ := h2 i (by omega)
    rw [cellsU8, Nat.mul_one] at hy
    obtain ⟨n, hn, _, hwf⟩ := DataW.trod_int Tryd.underlying5 hy
    have : (cs.drop i).take 1 = [v] := by
      rw [List.drop_eq_getElem_cons hlt, List.take_succ_cons, List.take_zero]
      rw [List.getElem?_eq_getElem hlt] at hi
      rw [Option.some.inj hi]
    rw [this] at hn
    cases hn
    have h2 : 0 ≤ n ∧ n ≤ 255 := by
      simp [Lit.wf, IntKind.min, IntKind.max, IntKind.signed, IntKind.bits] at hwf
      omega
    exact ⟨UInt8.ofNat n.toNat, by congr 1; rw [UInt8.toNat_ofNat']; omega⟩)
  refine ⟨l, hl, ?_⟩
  rw [hl, bys_length] at h1
  exact h1
set_option maxRecDepth 100000 in
/-- A slice of [32]byte, by its cell. -/
theorem trod_list32 {fuel : Nat} {v : Value} {x : DataW H × List MemPlace} (hok : Cell.okWide Tryd.prog W .any base 61 v) (h : DataW.trod enc Tryd.prog W 0 (fun _ => true) true fuel 61 [v] = some x) :
    ∃ q c L, v = .slice q (List.length L) c ∧ RdL W (.slice q L.length c) L := by
  rcases Deep.open_slice Tryd.underlying61 h with ⟨hc, _⟩ | ⟨a, len, cap, m, n, D, Pl, hc, _, hl, hm, hmm, _, hx⟩
  · have : v = .slice none 0 0 := by simpa using hc
    subst this
    exact ⟨none, 0, [], rfl, ⟨fun _ h => (by cases h), Rd.nil _ _⟩⟩
  · have hv' : v = .slice (some a) len cap := by simpa using hc
    subst hv'
    simp only [if_true] at hmm
    have hs : a.spot = none ∧ a.block < W.heap.size := by
      simp only [Cell.okWide, Tryd.underlying61, Cell.ok] at hok
      obtain ⟨_, _, _, h1, row, cells, h2, _⟩ := hok
      refine ⟨h1, ?_⟩
      unfold World.shape? at h2
      rcases Nat.lt_or_ge a.block W.heap.size with h' | h'
      · exact h'
      · rw [Array.getElem?_eq_none h'] at h2; cases h2
    rw [cells32] at hx
    have ha := addr_plain hs.1
    have each : ∀ i, i < cap → ∃ l : List UInt8, l.length = 32 ∧ ∀ j, j < 32 → W.cell? ⟨a.block, a.off + (i * 32 + j), none⟩ = (bys l)[j]? := by
      intro i hi
      obtain ⟨cs', h1, h2⟩ := hx i (by omega)
      obtain ⟨_, hlen, hcell⟩ := World.cells?_some h1
      obtain ⟨l, rfl, hl32⟩ := trod_arr32 h2
      refine ⟨l, hl32, fun j hj => ?_⟩
      have := hcell j hj
      rw [Deep.add_add, ha, addr_add] at this
      exact this
    obtain ⟨g, hg⟩ := Deep.choose_lt each
    have hLl : ((List.range len).map g).length = len := by simp
    have hall : All32 ((List.range len).map g) := fun y hy => by
      obtain ⟨i, hi, rfl⟩ := List.mem_map.1 hy
      exact (hg i (by have := List.mem_range.1 hi; omega)).1
    refine ⟨some ⟨a.block, a.off, none⟩, cap, (List.range len).map g, by rw [hLl, ← ha], hall, ?_⟩
    rw [hLl]
    refine ⟨by rw [bys_length, hall.flat, hLl], .inr ⟨a.block, a.off, cap, rfl, hs.2, hl, hm, fun j u hu => ?_⟩⟩
    have hj := (List.getElem?_eq_some_iff.1 hu).1
    rw [bys_length, hall.flat, hLl] at hj
    have hd : j / 32 < len := by omega
    have e : j = j / 32 * 32 + j % 32 := by omega
    have h1 := (hg (j / 32) (by omega)).2 (j % 32) (Nat.mod_lt _ (by omega))
    rw [← e] at h1
    have h3 := flat_get (j / 32) hall (by rw [hLl]; exact hd) (j % 32) (Nat.mod_lt _ (by omega))
    rw [← e] at h3
    rw [h1, ← hu]
    simp only [bys, List.getElem?_map, h3]
    simp [List.getD, hd]
set_option maxRecDepth 100000 in
theorem typesClaim : Tryd.prog.cellTypes Tryd.prog.depth 63 = some (3 :: 3 :: 61 :: (List.replicate 64 5 ++ [4])) := by kernel_rfl
theorem take_one {C : List Value} {k : Nat} (h : k < C.length) : (C.drop k).take 1 = [C[k]] := by rw [List.drop_eq_getElem_cons h, List.take_succ_cons, List.take_zero]
set_option maxRecDepth 100000 in
/-- An argument of type Claim. -/
theorem open_claim {v : Value} {d : DataW H} {p : List MemPlace} (hv : Value.okWide Tryd.prog W .any base 63 v) (h : DataW.Trod enc Tryd.prog W 0 (fun _ => true) true 63 v d p) :
    ∃ i n q c R a b r, v = .agg (claimA i n (.slice q (List.length R) c) a b r) ∧ RdL W (.slice q R.length c) R ∧ a.length = 32 ∧ b.length = 32 ∧ n ≤ 9223372036854775807 := by
  unfold Value.okWide at hv
  rw [Tryd.underlying63] at hv
  obtain ⟨cs, rfl, hsz, ts, hts, _, hc⟩ := hv
  obtain rfl := Option.some.inj (typesClaim.symm.trans hts)
  obtain ⟨fuel, h⟩ := h
  obtain ⟨xs, k, _, _, hlen, hxs, hf⟩ := DataW.trod_struct Tryd.underlying63 h
  have hxs : xs.length = 6 := hxs
  obtain ⟨C, hC⟩ : ∃ C, C = cs.toList := ⟨_, rfl⟩
  have hl68 : C.length = 68 := by
    have h68 : Tryd.prog.cellsOf 63 = 68 := by kernel_rfl
    rw [hC, ← h68]; exact hlen
  have ci : Tryd.prog.cellsOf 3 = 1 := by kernel_rfl
  have cl : Tryd.prog.cellsOf 61 = 1 := by kernel_rfl
  have cb : Tryd.prog.cellsOf 4 = 1 := by kernel_rfl
  obtain ⟨y0, g0⟩ : ∃ y, DataW.trod enc Tryd.prog W 0 (fun _ => true) true k 3 ((C.drop 0).take 1) = some y := ⟨_, by rw [hC, ← ci]; exact (hf 0 _ rfl).trans (List.getElem?_eq_getElem (by omega))⟩
  obtain ⟨y1, g1⟩ : ∃ y, DataW.trod enc Tryd.prog W 0 (fun _ => true) true k 3 ((C.drop 1).take 1) = some y := ⟨_, by rw [hC, ← ci]; exact (hf 1 _ rfl).trans (List.getElem?_eq_getElem (by omega))⟩
  obtain ⟨y2, g2⟩ : ∃ y, DataW.trod enc Tryd.prog W 0 (fun _ => true) true k 61 ((C.drop 2).take 1) = some y := ⟨_, by rw [hC, ← cl]; exact (hf 2 _ rfl).trans (List.getElem?_eq_getElem (by omega))⟩
  obtain ⟨y3, g3⟩ : ∃ y, DataW.trod enc Tryd.prog W 0 (fun _ => true) true k 22 ((C.drop 3).take 32) = some y := ⟨_, by rw [hC, ← cells32]; exact (hf 3 _ rfl).trans (List.getElem?_eq_getElem (by omega))⟩
  obtain ⟨y4, g4⟩ : ∃ y, DataW.trod enc Tryd.prog W 0 (fun _ => true) true k 22 ((C.drop 35).take 32) = some y := ⟨_, by rw [hC, ← cells32]; exact (hf 4 _ rfl).trans (List.getElem?_eq_getElem (by omega))⟩
  obtain ⟨y5, g5⟩ : ∃ y, DataW.trod enc Tryd.prog W 0 (fun _ => true) true k 4 ((C.drop 67).take 1) = some y := ⟨_, by rw [hC, ← cb]; exact (hf 5 _ rfl).trans (List.getElem?_eq_getElem (by omega))⟩
  obtain ⟨i, e0, _, _⟩ := DataW.trod_int Tryd.underlying3 g0
  obtain ⟨n, e1, _, hwf⟩ := DataW.trod_int Tryd.underlying3 g1
  obtain ⟨a, e3, ha⟩ := trod_arr32 g3
  obtain ⟨b, e4, hb⟩ := trod_arr32 g4
  obtain ⟨r, e5, _⟩ := DataW.trod_bool Tryd.underlying4 g5
  rw [take_one (show 2 < C.length by omega)] at g2
  obtain ⟨u, hu, hok⟩ := hc 2 C[2] (by rw [← Array.getElem?_toList, ← hC]; exact List.getElem?_eq_getElem _)
  have hu' : 61 = u := by
    have : some 61 = some u := hu
    exact Option.some.inj this
  subst hu'
  obtain ⟨q, c, R, hv, hR⟩ := trod_list32 hok g2
  have hfr : n ≤ 9223372036854775807 := by
    simp [Lit.wf, IntKind.min, IntKind.max, IntKind.signed, IntKind.bits] at hwf
    omega
  refine ⟨i, n, q, c, R, a, b, r, ?_, hR, ha, hb, hfr⟩
  congr 1
  have hCC : C = (C.drop 0).take 1 ++ ((C.drop 1).take 1 ++ ((C.drop 2).take 1 ++ ((C.drop 3).take 32 ++ ((C.drop 35).take 32 ++ (C.drop 67).take 1)))) := by
    have s : ∀ (k j : Nat), C.drop k = (C.drop k).take j ++ C.drop (k + j) := fun k j => by rw [← List.drop_drop, List.take_append_drop]
    have h1 := s 0 1
    have h2 := s 1 1
    have h3 := s 2 1
    have h4 := s 3 32
    have h5 := s 35 32
    have h6 : C.drop 67 = (C.drop 67).take 1 := (List.take_of_length_le (by rw [List.length_drop]; omega)).symm
    rw [← h6, ← h5, ← h4, ← h3, ← h2, ← h1, List.drop_zero]
  rw [e0, e1, take_one (show 2 < C.length by omega), hv, e3, e4, e5] at hCC
  apply Array.toList_inj.1
  rw [← hC, hCC]
  simp [claimA]
end
end Wrap
end Go.Proofs.YtkembhonfehlbaaDoor

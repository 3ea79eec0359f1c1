/- An argument opened: a slice of Acts (two numbers, a slice of bytes, a bool). -/
import Derived.Test.YtmkoiddfkanmiaaDoorOpenD
import Derived.Test.YtmkoiddfkanmiaaDoorGTenH
import Derived.Deep.Slices
namespace Go.Proofs.YtmkoiddfkanmiaaDoor
open Go.ChangeShapes Go.WideShapes Go.ChangeAt Go.RowKit Mem
namespace Wrap
section
variable {H : Type} {enc : TypeId × Value → H} {W : World} {base : Nat}
theorem i64_rangeA {n : Int} (h : (Lit.int .i64 n).wf = true) : -9223372036854775808 ≤ n ∧ n ≤ 9223372036854775807 := by
  simp [Lit.wf, IntKind.min, IntKind.max, IntKind.signed, IntKind.bits] at h
  omega
set_option maxRecDepth 100000 in
/-- A slice of bytes inside: an empty one may point anywhere. -/
theorem trod_raw {fuel : Nat} {v : Value} {y : DataW H × List MemPlace} (h : DataW.trod enc Tryd.prog W 0 (fun _ => true) true fuel 24 [v] = some y) : ∃ q c l, v = .slice q (List.length l) c ∧ Ref.Raw W q l.length c l := by
  rcases open_ints Tryd.underlying24 Tryd.underlying5 cellsU8 h with ⟨hc, _⟩ | ⟨a, len, cap, zs, hc, _, hl, hm, hz, _, hcell, hwf⟩
  · have : v = .slice none 0 0 := by simpa using hc
    subst this
    exact ⟨none, 0, [], rfl, .inl (Rd.nil _ _)⟩
  · have hv' : v = .slice (some a) len cap := by simpa using hc
    subst hv'
    simp only [if_true] at hz
    by_cases h0 : cap = 0
    · obtain rfl : len = 0 := by omega
      subst h0
      exact ⟨some a, 0, [], rfl, .inr ⟨rfl, rfl, rfl⟩⟩
    · have hb0 := hcell 0 (by omega)
      have hsp : a.spot = none := by
        have := World.cell?_spot hb0
        simpa [Addr.add] using this
      have hlt : a.block < W.heap.size := by
        have := World.block_lt_of_cell? _ _ hb0
        simpa [Addr.add] using this
      obtain ⟨l, hl'⟩ := bytes_back (zs.take len) (fun n hn => hwf n (List.mem_of_mem_take hn))
      have hll : l.length = len := by
        have := congrArg List.length hl'
        rw [List.length_take, List.length_map] at this; omega
      subst hll
      have ha := addr_plain hsp
      refine ⟨some ⟨a.block, a.off, none⟩, cap, l, by rw [← ha], .inl ?_⟩
      refine ⟨by rw [bys_length]; omega, .inr ⟨a.block, a.off, cap, rfl, hlt, hl, hm, fun j u hu => ?_⟩⟩
      have hj : j < l.length := by have := (List.getElem?_eq_some_iff.1 hu).1; rwa [bys_length] at this
      have h1 := hcell j (by omega)
      rw [ha, addr_add] at h1
      rw [h1]
      have h2 : (zs.take l.length)[j]? = some (zs.getD j 0) := by
        rw [List.getElem?_take, if_pos hj]; simp [List.getD, show j < zs.length by omega]
      rw [hl', List.getElem?_map] at h2
      obtain ⟨b, hb, hb2⟩ := Option.map_eq_some_iff.1 h2
      rw [← hb2]
      rw [← hu]
      simp [bys, hb]
set_option maxRecDepth 100000 in
theorem trod_act {fuel : Nat} {cs : List Value} {x : DataW H × List MemPlace} (h : DataW.trod enc Tryd.prog W 0 (fun _ => true) true fuel 64 cs = some x) : ∃ j : Ten.Act, cs = (Ten.actA j).toList ∧ j.ok W := by
  obtain ⟨xs, k, _, _, hlen, hxs, hf⟩ := DataW.trod_struct Tryd.underlying64 h
  have hxs : xs.length = 4 := hxs
  have h4 : cs.length = 4 := by
    have : Tryd.prog.cellsOf 64 = 4 := by kernel_rfl
    rw [← this]; exact hlen
  have ci : Tryd.prog.cellsOf 3 = 1 := by kernel_rfl
  have cl : Tryd.prog.cellsOf 24 = 1 := by kernel_rfl
  have cb : Tryd.prog.cellsOf 4 = 1 := by kernel_rfl
  obtain ⟨y0, g0⟩ : ∃ y, DataW.trod enc Tryd.prog W 0 (fun _ => true) true k 3 ((cs.drop 0).take 1) = some y := ⟨_, by rw [← ci]; exact (hf 0 _ rfl).trans (List.getElem?_eq_getElem (by omega))⟩
  obtain ⟨y1, g1⟩ : ∃ y, DataW.trod enc Tryd.prog W 0 (fun _ => true) true k 3 ((cs.drop 1).take 1) = some y := ⟨_, by rw [← ci]; exact (hf 1 _ rfl).trans (List.getElem?_eq_getElem (by omega))⟩
  obtain ⟨y2, g2⟩ : ∃ y, DataW.trod enc Tryd.prog W 0 (fun _ => true) true k 24 ((cs.drop 2).take 1) = some y := ⟨_, by rw [← cl]; exact (hf 2 _ rfl).trans (List.getElem?_eq_getElem (by omega))⟩
  obtain ⟨y3, g3⟩ : ∃ y, DataW.trod enc Tryd.prog W 0 (fun _ => true) true k 4 ((cs.drop 3).take 1) = some y := ⟨_, by rw [← cb]; exact (hf 3 _ rfl).trans (List.getElem?_eq_getElem (by omega))⟩
  obtain ⟨n0, e0, _, w0⟩ := DataW.trod_int Tryd.underlying3 g0
  obtain ⟨n1, e1, _, _⟩ := DataW.trod_int Tryd.underlying3 g1
  obtain ⟨b3, e3, _⟩ := DataW.trod_bool Tryd.underlying4 g3
  match cs, h4, e0, e1, g2, e3 with
  | [a, b, c, d], _, e0, e1, g2, e3 =>
    obtain ⟨q, cc, l, hv, hr⟩ := trod_raw (v := c) (by simpa using g2)
    refine ⟨⟨n0, n1, q, cc, l, b3⟩, ?_, i64_rangeA w0, hr⟩
    simp at e0 e1 e3
    subst e0 e1 e3 hv
    simp [Ten.actA]
set_option maxRecDepth 100000 in
/-- An argument of type []Act. -/
theorem open_acts {v : Value} {d : DataW H} {p : List MemPlace} (hv : Value.okWide Tryd.prog W .any base 56 v) (h : DataW.Trod enc Tryd.prog W 0 (fun _ => true) true 56 v d p) :
    ∃ q c J, v = .slice q (List.length J) c ∧ Rd W 4 (.slice q J.length c) J.length (Ten.acts J) ∧ ∀ j ∈ J, Ten.Act.ok W j := by
  obtain ⟨fuel, h⟩ := h
  have hok : Cell.okWide Tryd.prog W .any base 56 v := by
    unfold Value.okWide at hv
    rw [Tryd.underlying56] at hv
    exact hv
  have hcs : v.cells.toList = [v] := by
    simp only [Cell.okWide, Tryd.underlying56, Cell.ok] at hok
    cases v <;> first | rfl | exact absurd hok (by simp)
  rw [hcs] at h
  rcases Deep.open_slice Tryd.underlying56 h with ⟨hc, _⟩ | ⟨a, len, cap, m, n, D, Pl, hc, _, hl, hm, hmm, _, hx⟩
  · have : v = .slice none 0 0 := by simpa using hc
    subst this
    exact ⟨none, 0, [], rfl, Rd.nil _ _, fun _ h => by cases h⟩
  · have hv' : v = .slice (some a) len cap := by simpa using hc
    subst hv'
    simp only [if_true] at hmm
    have hs : a.spot = none ∧ a.block < W.heap.size := by
      simp only [Cell.okWide, Tryd.underlying56, Cell.ok] at hok
      obtain ⟨_, _, _, h1, row, cells, h2, _⟩ := hok
      refine ⟨h1, ?_⟩
      unfold World.shape? at h2
      rcases Nat.lt_or_ge a.block W.heap.size with h' | h'
      · exact h'
      · rw [Array.getElem?_eq_none h'] at h2; cases h2
    have c4 : Tryd.prog.cellsOf 64 = 4 := by kernel_rfl
    rw [c4] at hx
    have ha := addr_plain hs.1
    have each : ∀ i, i < cap → ∃ j : Ten.Act, j.ok W ∧ ∀ r, r < 4 → W.cell? ⟨a.block, a.off + (i * 4 + r), none⟩ = (Ten.actA j).toList[r]? := by
      intro i hi
      obtain ⟨cs', h1, h2⟩ := hx i (by omega)
      obtain ⟨_, hlen, hcell⟩ := World.cells?_some h1
      obtain ⟨j, rfl, hj⟩ := trod_act h2
      refine ⟨j, hj, fun r hr => ?_⟩
      have := hcell r hr
      rw [Deep.add_add, ha, addr_add] at this
      exact this
    obtain ⟨g, hg⟩ := Deep.choose_lt each
    have hLl : ((List.range len).map g).length = len := by simp
    refine ⟨some ⟨a.block, a.off, none⟩, cap, (List.range len).map g, by rw [hLl, ← ha], ?_, fun y hy => ?_⟩
    · rw [hLl]
      refine ⟨by rw [Ten.acts_length, hLl], .inr ⟨a.block, a.off, cap, rfl, hs.2, hl, hm, fun j u hu => ?_⟩⟩
      have hj := (List.getElem?_eq_some_iff.1 hu).1
      rw [Ten.acts_length, hLl] at hj
      have hd : j / 4 < len := by omega
      have e : j = j / 4 * 4 + j % 4 := by omega
      have h1 := (hg (j / 4) (by omega)).2 (j % 4) (Nat.mod_lt _ (by omega))
      rw [← e] at h1
      have h3 := Ten.acts_get ((List.range len).map g) (j / 4) (g (j / 4)) (by simp [hd]) (j % 4) (Nat.mod_lt _ (by omega))
      rw [← e] at h3
      rw [h1, ← h3, hu]
    · obtain ⟨i, hi, rfl⟩ := List.mem_map.1 hy
      exact (hg i (by have := List.mem_range.1 hi; omega)).1
end
end Wrap
end Go.Proofs.YtmkoiddfkanmiaaDoor

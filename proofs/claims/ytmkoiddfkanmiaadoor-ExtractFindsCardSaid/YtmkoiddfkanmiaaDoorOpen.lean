/- Arguments opened: slices of bytes, slices of slices of bytes. -/
import Derived.Test.YtmkoiddfkanmiaaDoorWrap
namespace Go.Proofs.YtmkoiddfkanmiaaDoor
open Go.ChangeShapes Go.WideShapes Go.ChangeAt Go.RowKit Mem Sha Ref
namespace Wrap
section
variable {H : Type} {enc : TypeId × Value → H} {W : World} {base : Nat} {d : DataW H} {p : List MemPlace} {v : Value}
set_option maxRecDepth 100000 in
theorem bytes_back (zs : List Int) (h : ∀ n ∈ zs, (Lit.int .u8 n).wf = true) : ∃ l : List UInt8, zs = l.map (fun b => (b.toNat : Int)) := by
  induction zs with
  | nil => exact ⟨[], rfl⟩
  | cons z zs ih =>
    obtain ⟨l, hl⟩ := ih (fun n hn => h n (List.mem_cons_of_mem _ hn))
    have h1 := h z List.mem_cons_self
    have h2 : 0 ≤ z ∧ z ≤ 255 := by
      simp [Lit.wf, IntKind.min, IntKind.max, IntKind.signed, IntKind.bits] at h1
      omega
    refine ⟨UInt8.ofNat z.toNat :: l, ?_⟩
    rw [List.map_cons, ← hl]
    congr 1
    rw [UInt8.toNat_ofNat']
    omega
set_option maxRecDepth 100000 in
theorem addr_plain {a : Addr} (h : a.spot = none) : a = ⟨a.block, a.off, none⟩ := by cases a; simp at h; subst h; rfl
set_option maxRecDepth 100000 in
/-- An argument of type []byte. -/
theorem open_bytes (hv : Value.okWide Tryd.prog W .any base 24 v) (h : DataW.Trod enc Tryd.prog W 0 (fun _ => true) true 24 v d p) :
    ∃ q c l, v = .slice q (List.length l) c ∧ Rd W 1 (.slice q l.length c) l.length (bys l) := by
  obtain ⟨fuel, h⟩ := h
  have hcs : v.cells.toList = [v] := by
    unfold Value.okWide at hv
    rw [Tryd.underlying24] at hv
    simp only [Cell.okWide, Tryd.underlying24, Cell.ok] at hv
    cases v <;> first | rfl | exact absurd hv (by simp)
  rw [hcs] at h
  rcases open_ints Tryd.underlying24 Tryd.underlying5 cellsU8 h with ⟨hc, _⟩ | ⟨a, len, cap, zs, hc, _, hl, hm, hz, _, hcell, hwf⟩
  · have : v = .slice none 0 0 := by simpa using hc
    subst this
    exact ⟨none, 0, [], rfl, Rd.nil _ _⟩
  · have hv' : v = .slice (some a) len cap := by simpa using hc
    subst hv'
    simp only [if_true] at hz
    have hs : a.spot = none ∧ a.block < W.heap.size := by
      unfold Value.okWide at hv
      rw [Tryd.underlying24] at hv
      simp only [Cell.okWide, Tryd.underlying24, Cell.ok] at hv
      obtain ⟨_, _, _, h1, row, cells, h2, _⟩ := hv
      refine ⟨h1, ?_⟩
      unfold World.shape? at h2
      rcases Nat.lt_or_ge a.block W.heap.size with h' | h'
      · exact h'
      · rw [Array.getElem?_eq_none h'] at h2; cases h2
    obtain ⟨l, hl'⟩ := bytes_back (zs.take len) (fun n hn => hwf n (List.mem_of_mem_take hn))
    have hll : l.length = len := by
      have := congrArg List.length hl'
      rw [List.length_take, List.length_map] at this; omega
    subst hll
    have ha := addr_plain hs.1
    refine ⟨some ⟨a.block, a.off, none⟩, cap, l, by rw [← ha], ?_⟩
    refine ⟨by rw [bys_length]; omega, .inr ⟨a.block, a.off, cap, rfl, hs.2, hl, hm, fun j u hu => ?_⟩⟩
    have hj : j < l.length := by have := (List.getElem?_eq_some_iff.1 hu).1; rwa [bys_length] at this
    have h1 := hcell j (by omega)
    rw [ha, addr_add] at h1
    rw [h1]
    have h2 : (zs.take l.length)[j]? = some (zs.getD j 0) := by
      rw [List.getElem?_take, if_pos hj]; simp [List.getD, show j < zs.length by omega]
    rw [hl', List.getElem?_map] at h2
    obtain ⟨b, hb, hb2⟩ := Option.map_eq_some_iff.1 h2
    rw [← hb2]
    rw [← hu]
    simp [bys, hb]
set_option maxRecDepth 100000 in
/-- An argument of type [][]byte. -/
theorem open_parts (hv : Value.okWide Tryd.prog W .any base 22 v) (h : DataW.Trod enc Tryd.prog W 0 (fun _ => true) true 22 v d p) :
    ∃ q c L, v = .slice q (List.length L) c ∧ RawParts W (.slice q L.length c) L := by
  obtain ⟨fuel, h⟩ := h
  have hcs : v.cells.toList = [v] := by
    unfold Value.okWide at hv
    rw [Tryd.underlying22] at hv
    simp only [Cell.okWide, Tryd.underlying22, Cell.ok] at hv
    cases v <;> first | rfl | exact absurd hv (by simp)
  rw [hcs] at h
  rcases Deep.open_int_rows Tryd.underlying22 Tryd.underlying24 Tryd.underlying5 cellsSl cellsU8 h with ⟨hc, _⟩ | ⟨a, len, cap, A, Ln, C, Z, hc, _, hl, hm, _, hrow⟩
  · have : v = .slice none 0 0 := by simpa using hc
    subst this
    exact ⟨none, 0, [], rfl, [], Rd.nil _ _, fun i hi => by cases hi⟩
  · have hv' : v = .slice (some a) len cap := by simpa using hc
    subst hv'
    have hs : a.spot = none ∧ a.block < W.heap.size := by
      unfold Value.okWide at hv
      rw [Tryd.underlying22] at hv
      simp only [Cell.okWide, Tryd.underlying22, Cell.ok] at hv
      obtain ⟨_, _, _, h1, row, cells, h2, _⟩ := hv
      refine ⟨h1, ?_⟩
      unfold World.shape? at h2
      rcases Nat.lt_or_ge a.block W.heap.size with h' | h'
      · exact h'
      · rw [Array.getElem?_eq_none h'] at h2; cases h2
    have each : ∀ r, r < cap → ∃ l : List UInt8, l.length = Ln r ∧ Raw W (A r) (Ln r) (C r) l := by
      intro r hr
      obtain ⟨hc1, hc2, hc3, hc4, hc5, hc6, hc7⟩ := hrow r hr
      by_cases h0 : C r = 0
      · exact ⟨[], by simp; omega, .inr ⟨by omega, h0, rfl⟩⟩
      · cases hA : A r with
        | none => exact absurd (hc6 hA) h0
        | some b =>
          obtain ⟨_, hcell⟩ := hc7 b hA
          obtain ⟨l, hl'⟩ := bytes_back ((Z r).take (Ln r)) (fun n hn => hc5 n (List.mem_of_mem_take hn))
          have hll : l.length = Ln r := by
            have := congrArg List.length hl'
            rw [List.length_take, List.length_map] at this; omega
          have hb0 := hcell 0 (by omega)
          have hsp : b.spot = none := by
            have := World.cell?_spot hb0
            simpa [Addr.add] using this
          have hlt : b.block < W.heap.size := by
            have := World.block_lt_of_cell? _ _ hb0
            simpa [Addr.add] using this
          have hbp := addr_plain hsp
          refine ⟨l, hll, .inl ⟨by rw [bys_length]; omega, .inr ⟨b.block, b.off, C r, by rw [← hbp], hlt, hc2, hc3, fun j u hu => ?_⟩⟩⟩
          have hj : j < l.length := by have := (List.getElem?_eq_some_iff.1 hu).1; rwa [bys_length] at this
          have h1 := hcell j (by omega)
          rw [hbp, addr_add] at h1
          rw [h1]
          have h2 : ((Z r).take (Ln r))[j]? = some ((Z r).getD j 0) := by
            rw [List.getElem?_take, if_pos (by omega)]; simp [List.getD, show j < (Z r).length by omega]
          rw [hl', List.getElem?_map] at h2
          obtain ⟨x, hx, hx2⟩ := Option.map_eq_some_iff.1 h2
          rw [← hx2, ← hu]
          simp [bys, hx]
    obtain ⟨f, hf⟩ := Deep.choose_lt each
    have ha := addr_plain hs.1
    have hLl : ((List.range len).map f).length = len := by simp
    refine ⟨some ⟨a.block, a.off, none⟩, cap, (List.range len).map f, by rw [hLl, ← ha], (List.range len).map (fun r => Value.slice (A r) (Ln r) (C r)), ?_, fun i hi => ?_⟩
    · rw [hLl]
      refine ⟨by simp, .inr ⟨a.block, a.off, cap, rfl, hs.2, hl, hm, fun j u hu => ?_⟩⟩
      have hj : j < len := by have := (List.getElem?_eq_some_iff.1 hu).1; simpa using this
      have h1 := (hrow j (by omega)).1
      rw [ha, addr_add] at h1
      rw [h1, ← hu]
      simp [hj]
    · rw [hLl] at hi
      have hg : ((List.range len).map f).getD i [] = f i := by simp [List.getD, hi]
      rw [hg]
      obtain ⟨h1, h2⟩ := hf i (by omega)
      rw [h1]
      exact ⟨A i, C i, by simp [hi], h2⟩
set_option maxRecDepth 100000 in
/-- An argument of type int. -/
theorem open_i64 (hv : Value.okWide Tryd.prog W .any base 3 v) : ∃ n, v = .int .i64 n ∧ -9223372036854775808 ≤ n ∧ n ≤ 9223372036854775807 := by
  unfold Value.okWide at hv
  rw [Tryd.underlying3] at hv
  cases v <;> simp only [Cell.okWide, Tryd.underlying3, Cell.ok] at hv
  rename_i k n
  obtain ⟨rfl, h⟩ := hv
  refine ⟨n, rfl, ?_⟩
  simpa [IntKind.has, IntKind.min, IntKind.max, IntKind.signed, IntKind.bits] using h
set_option maxRecDepth 100000 in
theorem cellTypes32 : Tryd.prog.cellTypes Tryd.prog.depth 42 = some (List.replicate 32 5) := by kernel_rfl
set_option maxRecDepth 100000 in
theorem bytes_of (cs : List Value) (h : ∀ v ∈ cs, ∃ b : UInt8, v = .int .u8 (b.toNat : Int)) : ∃ l : List UInt8, cs = bys l := by
  induction cs with
  | nil => exact ⟨[], rfl⟩
  | cons v cs ih =>
    obtain ⟨b, rfl⟩ := h v List.mem_cons_self
    obtain ⟨l, rfl⟩ := ih (fun v hv => h v (List.mem_cons_of_mem _ hv))
    exact ⟨b :: l, rfl⟩
set_option maxRecDepth 100000 in
/-- An argument of type [32]byte. -/
theorem open_arr32 (hv : Value.okWide Tryd.prog W .any base 42 v) : ∃ l : List UInt8, v = .agg (bysA l) ∧ l.length = 32 := by
  unfold Value.okWide at hv
  rw [Tryd.underlying42] at hv
  obtain ⟨cs, rfl, hsz, ts, hts, _, hc⟩ := hv
  obtain rfl : List.replicate 32 5 = ts := Option.some.inj (cellTypes32.symm.trans hts)
  have h32 : cs.size = 32 := hsz.trans (by kernel_rfl)
  obtain ⟨l, hl⟩ := bytes_of cs.toList (fun v hv => by
    obtain ⟨i, hi⟩ := List.mem_iff_getElem?.1 hv
    obtain ⟨u, hu, hok⟩ := hc i v (by simpa using hi)
    have hu' : u = 5 := by
      have := List.mem_of_getElem? hu
      simpa using this
    subst hu'
    cases v <;> simp only [Cell.okWide, Tryd.underlying5, Cell.ok] at hok
    rename_i k n
    obtain ⟨rfl, hr⟩ := hok
    have hr' : 0 ≤ n ∧ n ≤ 255 := by simpa [IntKind.has, IntKind.min, IntKind.max, IntKind.signed, IntKind.bits] using hr
    refine ⟨UInt8.ofNat n.toNat, ?_⟩
    congr 1
    rw [UInt8.toNat_ofNat']
    omega)
  have hc' : cs = bysA l := by
    unfold bysA
    rw [← hl]
  refine ⟨l, by rw [hc'], ?_⟩
  rw [hc', bysA_size] at h32
  exact h32
set_option maxRecDepth 100000 in
/-- An argument of type string. -/
theorem open_str (hv : Value.okWide Tryd.prog W .any base 9 v) (h : DataW.Trod enc Tryd.prog W 0 (fun _ => true) true 9 v d p) : ∃ l : List UInt8, v = .string ⟨l.toArray⟩ ∧ l.length ≤ maxLen := by
  unfold Value.okWide at hv
  rw [Tryd.underlying9] at hv
  cases v <;> simp only [Cell.okWide, Tryd.underlying9, Cell.ok] at hv
  rename_i s
  obtain ⟨fuel, h⟩ := h
  cases fuel with
  | zero => simp [DataW.trod] at h
  | succ fuel =>
    simp only [DataW.trod, Tryd.underlying9, Value.cells] at h
    refine ⟨s.data.toList, rfl, ?_⟩
    split at h
    · rename_i hs; exact hs
    · cases h
end
end Wrap
end Go.Proofs.YtmkoiddfkanmiaaDoor

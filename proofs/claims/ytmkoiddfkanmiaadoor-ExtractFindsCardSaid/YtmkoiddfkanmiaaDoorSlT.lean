/- slices.Insert of one tenant, anywhere in a row of one's own. -/
import Derived.Test.YtmkoiddfkanmiaaDoorSlI
namespace Go.Proofs.YtmkoiddfkanmiaaDoor
open Go.RowKit
namespace Ten
open Mem
theorem infoinsTen : (Tryd.prog.info? 111).map (fun i => (i.zero, i.size, i.bytes)) = some (some (.agg #[.string ⟨#[]⟩, .int .i64 0, .int .i64 0, .pointer none]), 4, 40) := by kernel_rfl
theorem sizeinsTen : (Tryd.prog.info? 111).map (·.size) = some 4 := by kernel_rfl
set_option maxRecDepth 100000 in
set_option maxHeartbeats 2000000 in
theorem insTen_end (base b : Nat) (q : Option Addr) (n c : Nat) (xs : List Value) (ec : Array Value) (w : World) (hec : ec.size = 4) (h1 : ∀ u ∈ ec.toList, u.oneCell' = true) (hb : w.heap[b]? = some (.cells ec 111 (0, 0)))
    (ho : Ow w base 111 4 (.slice q n c) n xs) (hl : n ≤ 1000000) (hbs : base ≤ w.heap.size) :
    Calls Tryd.prog 56 #[.slice q n c, .int .i64 n, .slice (some ⟨b, 0, none⟩) 1 1] w fun e w' => ∃ q' c', e = .returned (.slice q' (n + 1) c') ∧ Ow w' base 111 4 (.slice q' (n + 1) c') (n + 1) (xs ++ ec.toList) ∧ w.grownBy w' (Value.slice q n c).ownBlock ∧
      (∀ k, (Value.slice q' (n + 1) c').ownBlock = some k → (Value.slice q n c).ownBlock = some k ∨ w.heap.size ≤ k) := by
  obtain ⟨i0, hi0, hz0, hz1, hz2⟩ := parts3M infoinsTen
  have HR : Hid (Src Tryd.prog 4 104 (.slice (some ⟨b, 0, none⟩) 1 1) 1 ec.toList w) := Lib.hid (Src.ofSlice w Tryd.underlying104 ⟨b, 0, none⟩ 1 1 ec.toList (by rw [Array.length_toList, hec]) (fun j u hu => by rw [addr_add, cell_of_row w b _ _ _ _ hb, Nat.zero_add]; simpa using hu) h1)
  have HO := Lib.hid ho
  clear hb ho
  go_enter Tryd.func56, Tryd.ntmps56
  go_wp2_with (at_builtin; go_must (refine app_ow3 rfl _ _ 104 104 rfl base 111 i0 (.agg #[.string ⟨#[]⟩, .int .i64 0, .int .i64 0, .pointer none]) 4 40 Tryd.underlying104 hi0 hz0 hz1 hz2 (by rfl) _ n _ rfl HO.out 1 _ rfl HR.out (by unfold maxLen; omega) (by omega) hbs ?_); go_must (intro v4 w4 how4 hg4 hn4); go_must (obtain ⟨q4, c4, rfl⟩ := Ow_form how4); go_must (refine Hid.out ?_))
  all_goals (
    refine Lib.hid ?_
    have how5 := Lib.hid how4
    have hg5 := Lib.hid hg4
    have hn5 := Lib.hid hn4
    clear how4 hg4 hn4
    go_wp2_with fail
    go_ret
    exact ⟨q4, c4, rfl, how5.out, hg5.out, hn5.out⟩)
set_option maxRecDepth 100000 in
set_option maxHeartbeats 2000000 in
theorem insTen_shift (base b g : Nat) (n c i : Nat) (xs : List Value) (ec : Array Value) (w : World) (hec : ec.size = 4) (h1 : ∀ u ∈ ec.toList, u.oneCell' = true) (h1x : ∀ u ∈ xs, u.oneCell' = true) (hb : w.heap[b]? = some (.cells ec 111 (0, 0))) (hne : b ≠ g)
    (ho : Ow w base 111 4 (.slice (some ⟨g, 0, none⟩) n c) n xs) (hi : i < n) (hl : n ≤ 1000000) (hc : n + 1 ≤ c) :
    Calls Tryd.prog 56 #[.slice (some ⟨g, 0, none⟩) n c, .int .i64 i, .slice (some ⟨b, 0, none⟩) 1 1] w fun e w' => e = .returned (.slice (some ⟨g, 0, none⟩) (n + 1) c) ∧ Ow w' base 111 4 (.slice (some ⟨g, 0, none⟩) (n + 1) c) (n + 1) (xs.take (i * 4) ++ ec.toList ++ xs.drop (i * 4)) ∧ w.grownBy w' (some g) := by
  obtain ⟨_, hcm, _, hgl⟩ := ho.cap
  have hc63 : c ≤ 9223372036854775807 := by unfold maxLen at hcm; omega
  obtain ⟨ys, hyl, hwo⟩ := ho.widen (n + 1) hc (by omega)
  have hyl' : ys.length = 4 := by rw [hyl, show n + 1 - n = 1 by omega, Nat.one_mul]
  have hxl := ho.1
  have hdl : (xs.drop (i * 4)).length = (n - i) * 4 := by rw [List.length_drop, hxl]; omega
  -- the first copy
  obtain ⟨W1, hW1⟩ : ∃ W1, W1 = w.drew.setCells g ((i + 1) * 4) (xs.drop (i * 4)) := ⟨_, rfl⟩
  have hwod : Ow w.drew base 111 4 (.slice (some ⟨g, 0, none⟩) (n + 1) c) (n + 1) (xs ++ ys) := hwo
  obtain ⟨hw1, hg1⟩ := hwod.write ((i + 1) * 4) (xs.drop (i * 4)) (by rw [hdl]; omega)
  have hcs := hwod.cells
  have HC1 : Hid (∀ ty dc sc, (Builtin.copy_ #[104, 104] ty #[.slice (some ⟨g, (i + 1) * 4, none⟩) (n - i) dc, .slice (some ⟨g, i * 4, none⟩) (n + 1 - i) sc]).run Tryd.prog w.drew = .ok (goInt (n - i : Nat)) W1) := Lib.hid (fun ty dc sc => by
    rw [hW1]
    exact run_copy_sz w.drew 4 _ _ ty 111 g _ _ dc ⟨g, i * 4, none⟩ _ sc (n - i) (xs.drop (i * 4)) Tryd.underlying104 sizeinsTen (by simp only [Nat.min_def]; split <;> omega) hdl
      (fun j u hu => by
        rw [addr_add]
        exact hwod.cellx (by rw [List.getElem?_drop] at hu; rw [List.getElem?_append_left (by have := (List.getElem?_eq_some_iff.1 hu).1; omega)]; exact hu))
      (fun j hj => (hcs _ (by rw [hdl] at hj; omega)).1) (fun j hj => (hcs _ (by rw [hdl] at hj; omega)).2) (fun u hu => h1x u (List.mem_of_mem_drop hu)))
  rw [← hW1] at hw1 hg1
  have hb1 : W1.heap[b]? = some (.cells ec 111 (0, 0)) := by rw [hg1.block b (Array.getElem?_eq_some_iff.1 hb).1 (by intro e; cases e; exact hne rfl)]; exact hb
  obtain ⟨W2, hW2⟩ : ∃ W2, W2 = W1.setCells g (i * 4) ec.toList := ⟨_, rfl⟩
  have hel : ec.toList.length = 4 := by rw [Array.length_toList, hec]
  obtain ⟨hw2, hg2⟩ := hw1.write (i * 4) ec.toList (by rw [hel]; omega)
  have hcs1 := hw1.cells
  have HC2 : Hid (∀ ty dc, (Builtin.copy_ #[104, 104] ty #[.slice (some ⟨g, i * 4, none⟩) (n + 1 - i) dc, .slice (some ⟨b, 0, none⟩) 1 1]).run Tryd.prog W1 = .ok (goInt (1 : Nat)) W2) := Lib.hid (fun ty dc => by
    rw [hW2]
    exact run_copy_sz W1 4 _ _ ty 111 g _ _ dc ⟨b, 0, none⟩ 1 1 1 ec.toList Tryd.underlying104 sizeinsTen (by simp only [Nat.min_def]; split <;> omega) (by rw [hel, Nat.one_mul])
      (fun j u hu => by rw [addr_add, cell_of_row W1 b _ _ _ _ hb1, Nat.zero_add]; simpa using hu)
      (fun j hj => (hcs1 _ (by rw [hel] at hj; omega)).1) (fun j hj => (hcs1 _ (by rw [hel] at hj; omega)).2) h1)
  rw [← hW2] at hw2 hg2
  have hlist : ((xs ++ ys).take ((i + 1) * 4) ++ xs.drop (i * 4) ++ (xs ++ ys).drop ((i + 1) * 4 + (xs.drop (i * 4)).length)).take (i * 4) ++ ec.toList ++ ((xs ++ ys).take ((i + 1) * 4) ++ xs.drop (i * 4) ++ (xs ++ ys).drop ((i + 1) * 4 + (xs.drop (i * 4)).length)).drop (i * 4 + ec.toList.length) = xs.take (i * 4) ++ ec.toList ++ xs.drop (i * 4) := by
    have e1 : (xs ++ ys).drop ((i + 1) * 4 + (xs.drop (i * 4)).length) = [] := List.drop_eq_nil_of_le (by rw [List.length_append, hdl, hxl, hyl']; omega)
    rw [e1, List.append_nil, hel]
    have e2 : ((xs ++ ys).take ((i + 1) * 4)).length = i * 4 + 4 := by rw [List.length_take, List.length_append, hxl, hyl']; omega
    rw [List.take_append_of_le_length (by rw [e2]; omega), List.take_take, Nat.min_eq_left (by omega), List.take_append_of_le_length (by rw [hxl]; omega), List.drop_append, List.drop_eq_nil_of_le (by rw [e2]; omega), List.nil_append, e2, Nat.sub_self, List.drop_zero]
  rw [hlist] at hw2
  have HW2 := Lib.hid hw2
  have HG2 : Hid (w.grownBy W2 (some g)) := Lib.hid ⟨hg2.os.trans hg1.os, hg2.tape.trans hg1.tape, hg2.output.trans hg1.output, Nat.le_trans hg1.size hg2.size, fun k hk hn => (hg2.block k (Nat.lt_of_lt_of_le hk hg1.size) hn).trans (hg1.block k hk hn)⟩
  have hsa : w.shape? b = some (111, 4) := by unfold World.shape?; rw [hb, ← hec]
  have hsb := ho.shape
  have HOV : Hid (∀ lb cb, (callFunc 65 #[.slice (some ⟨b, 0, none⟩) 1 1, .slice (some ⟨g, (i + 1) * 4, none⟩) lb cb]).run Tryd.prog w = .ok (.value (.bool false)) w) := Lib.hid (fun lb cb => by
    rw [run_callFunc_extern (P := Tryd.prog) Tryd.func65 (by kernel_rfl) (by kernel_rfl) (by kernel_rfl) (e := Extern.SlicesOverlaps.overlaps #[104, 104] #[4]) (by kernel_rfl),
      Lib.run_overlaps_apart w 104 4 111 Tryd.underlying104 4 (fun w => by
        obtain ⟨i0, hi0, hz0, hz1, hz2⟩ := parts3M infoinsTen
        simp [sizeOf, typeInfo, hi0, hz1]) ⟨b, 0, none⟩ ⟨g, (i + 1) * 4, none⟩ 1 1 lb cb hne 111 111 4 (c * 4) hsa hsb (by omega) (by simp [World.frozen?, hb]) (by simp [World.frozen?, hb])]
    rfl)
  have hz2 : ¬ ((i : Int) = (n : Int)) := by omega
  have hz3 : ¬ ((c : Int) < (n : Int) + 1) := by omega
  have hb2 : ¬ (c = i + 1) := by omega
  have hb4 : ¬ (c = i) := by omega
  have hb3 : (i : Int) ≤ (n : Int) + 1 := by omega
  have hin : i ≤ n := by omega
  have hw1' : IntKind.i64.wrap ((i : Int) + 1) = (i : Int) + 1 := by rw [IntKind.wrap_i64]; omega
  have hb1' : (0 : Int) ≤ (i : Int) + 1 := by omega
  have htn : ((i : Int) + 1).toNat = i + 1 := by omega
  clear h1 h1x hb ho hwo hwod hw1 hg1 hcs hb1 hw2 hg2 hcs1 hlist hsa hsb hW1 hW2 hyl hyl' hdl hxl hel hec
  go_enter Tryd.func56, Tryd.ntmps56
  go_wp2_with fail
  rw [HOV.out]
  rw [Oper.upon_value]
  go_wp2_with fail
  go_region_law (refine step_copy rfl _ _ 104 104 rfl (.slice (some ⟨g, (i + 1) * 4, none⟩) (n - i) (c - (i + 1))) (.slice (some ⟨g, i * 4, none⟩) (n + 1 - i) (c - i)) (by simp [Act.eval, Act.put]) (by simp [Act.eval, Act.put]) (HC1.out 3 (c - (i + 1)) (c - i)) ?_)
  go_wp2_with fail
  rw [HC2.out]
  go_wp2_with fail
  go_ret
  exact ⟨rfl, HW2.out, HG2.out⟩
set_option maxRecDepth 100000 in
set_option maxHeartbeats 2000000 in
theorem insTen_grow (base b g : Nat) (n c i : Nat) (xs : List Value) (ec : Array Value) (w : World) (hec : ec.size = 4) (h1 : ∀ u ∈ ec.toList, u.oneCell' = true) (h1x : ∀ u ∈ xs, u.oneCell' = true) (hb : w.heap[b]? = some (.cells ec 111 (0, 0)))
    (ho : Ow w base 111 4 (.slice (some ⟨g, 0, none⟩) n c) n xs) (hi : i < n) (hl : n ≤ 1000000) (hc : c < n + 1) (hbs : base ≤ w.heap.size) :
    Calls Tryd.prog 56 #[.slice (some ⟨g, 0, none⟩) n c, .int .i64 i, .slice (some ⟨b, 0, none⟩) 1 1] w fun e w' => ∃ c', e = .returned (.slice (some ⟨w.heap.size, 0, none⟩) (n + 1) c') ∧ Ow w' base 111 4 (.slice (some ⟨w.heap.size, 0, none⟩) (n + 1) c') (n + 1) (xs.take (i * 4) ++ ec.toList ++ xs.drop (i * 4)) ∧ Below w.heap.size w w' := by
  obtain ⟨hnc, hcm, _, hgl⟩ := ho.cap
  obtain ⟨i0, hi0, hz0, hzs, hzb⟩ := parts3M infoinsTen
  have hbw := (Array.getElem?_eq_some_iff.1 hb).1
  have hxl := ho.1
  have hel : ec.toList.length = 4 := by rw [Array.length_toList, hec]
  have hdl : (xs.drop (i * 4)).length = (n - i) * 4 := by rw [List.length_drop, hxl]; omega
  have hkk : (n : Int) + 1 - (i : Int) = ((n + 1 - i : Nat) : Int) := by omega
  have hik : i + (n + 1 - i) = n + 1 := by omega
  have hold : (Builtin.firstCells i0.size i (.slice (some ⟨g, 0, none⟩) i c)).run Tryd.prog w.drew = .ok (xs.take (i * 4)).toArray w.drew := by
    rw [hzs]
    exact run_firstCells_some w.drew 4 i ⟨g, 0, none⟩ i c (xs.take (i * 4)) (by rw [List.length_take]; omega) (fun j v hj => by
      rw [addr_add, Nat.zero_add]
      refine ho.cellx (w := w) ?_
      rw [List.getElem?_take] at hj
      split at hj
      · exact hj
      · cases hj)
  obtain ⟨G, hG⟩ : ∃ G, G = grownCap w (n + 1) c 111 := ⟨_, rfl⟩
  obtain ⟨ZA, hZA⟩ : ∃ ZA, ZA = Builtin.zeroCells (Value.cells (.agg #[.string ⟨#[]⟩, .int .i64 0, .int .i64 0, .pointer none])) (n + 1 - i) := ⟨_, rfl⟩
  obtain ⟨ZB, hZB⟩ : ∃ ZB, ZB = Builtin.zeroCells (Value.cells (.agg #[.string ⟨#[]⟩, .int .i64 0, .int .i64 0, .pointer none])) (G - (n + 1)) := ⟨_, rfl⟩
  have hGn : n + 1 ≤ G := by rw [hG]; exact grownCap_ge w _ _ _
  have hGm : G ≤ maxLen := by rw [hG]; exact grownCap_le_maxLen w (n + 1) c 111 (by unfold maxLen; omega)
  have hG63 : G ≤ 9223372036854775807 := by unfold maxLen at hGm; omega
  have hZAs : ZA.size = (n + 1 - i) * 4 := by rw [hZA, zeroCells_size]; rfl
  have hZBs : ZB.size = (G - (n + 1)) * 4 := by rw [hZB, zeroCells_size]; rfl
  obtain ⟨W1, hW1⟩ : ∃ W1, W1 = w.drew.alloc (.cells ((xs.take (i * 4)).toArray ++ ZA ++ ZB) 111) := ⟨_, rfl⟩
  have HA : Hid (∀ ty, (Builtin.append_ #[104, 3] ty #[.slice (some ⟨g, 0, none⟩) i c, .int .i64 ((n : Int) + 1 - (i : Int))]).run Tryd.prog w = .ok (.slice (some ⟨w.heap.size, 0, none⟩) (n + 1) G) W1) := Lib.hid (fun ty => by
    have h := Lib.run_append_grow_zeros w 104 3 ty 111 i0 _ .i64 .i64 Tryd.underlying104 Tryd.underlying3 hi0 hz0 (some ⟨g, 0, none⟩) i c (xs.take (i * 4)) hold (n + 1 - i) (by omega) (by omega) (by omega) (by omega) (by rw [hzb]; omega) (by rw [hzb, hik]; exact growslice_fits hc (by omega))
    rw [hik, ← hG, ← hZA, ← hZB, ← hW1] at h
    rw [hkk]
    exact h)
  have hW1h : W1.heap[w.heap.size]? = some (.cells ((xs.take (i * 4)).toArray ++ ZA ++ ZB) 111 (0, 0)) := by rw [hW1]; exact heap_alloc_new w.drew _
  have htl : (xs.take (i * 4)).length = i * 4 := by rw [List.length_take, hxl]; omega
  have hw1 : Ow W1 base 111 4 (.slice (some ⟨w.heap.size, 0, none⟩) (n + 1) G) (n + 1) (xs.take (i * 4) ++ ZA.toList) := by
    refine ⟨by rw [List.length_append, htl, Array.length_toList, hZAs]; omega, .inr ⟨w.heap.size, G, _, (0, 0), rfl, hbs, hW1h, fun j _ => by simp, hGn, hGm, ?_, ?_⟩⟩
    · simp only [Array.size_append, List.size_toArray, htl, hZAs, hZBs]; omega
    · have : (n + 1) * 4 = (xs.take (i * 4) ++ ZA.toList).length := by rw [List.length_append, htl, Array.length_toList, hZAs]; omega
      rw [this]
      simp only [Array.toList_append]
      exact List.take_left
  have hb01 : Below w.heap.size w W1 := by rw [hW1]; exact ((Below.refl w.heap.size w).drew).alloc (Nat.le_refl _) _
  -- the copies
  have hb1 : W1.heap[b]? = some (.cells ec 111 (0, 0)) := (hb01.block b hbw).trans hb
  have hcs1 := hw1.cells
  obtain ⟨W2, hW2⟩ : ∃ W2, W2 = W1.setCells w.heap.size (i * 4) ec.toList := ⟨_, rfl⟩
  obtain ⟨hw2, hg2⟩ := hw1.write (i * 4) ec.toList (by rw [hel]; omega)
  have HC1 : Hid (∀ ty dc, (Builtin.copy_ #[104, 104] ty #[.slice (some ⟨w.heap.size, i * 4, none⟩) (n + 1 - i) dc, .slice (some ⟨b, 0, none⟩) 1 1]).run Tryd.prog W1 = .ok (goInt (1 : Nat)) W2) := Lib.hid (fun ty dc => by
    rw [hW2]
    exact run_copy_sz W1 4 _ _ ty 111 w.heap.size _ _ dc ⟨b, 0, none⟩ 1 1 1 ec.toList Tryd.underlying104 sizeinsTen (by simp only [Nat.min_def]; split <;> omega) (by rw [hel, Nat.one_mul])
      (fun j u hu => by rw [addr_add, cell_of_row W1 b _ _ _ _ hb1, Nat.zero_add]; simpa using hu)
      (fun j hj => (hcs1 _ (by rw [hel] at hj; omega)).1) (fun j hj => (hcs1 _ (by rw [hel] at hj; omega)).2) h1)
  rw [← hW2] at hw2 hg2
  have hb02 : Below w.heap.size w W2 := hb01.grown hg2 hb01.size (fun k hk => by cases hk; exact Nat.le_refl _)
  have ho2 : Ow W2 base 111 4 (.slice (some ⟨g, 0, none⟩) n c) n xs := ho.below hb02
  have hw2d : Ow W2.drew base 111 4 _ _ _ := hw2
  have hcs2 := hw2.cells
  obtain ⟨W3, hW3⟩ : ∃ W3, W3 = W2.drew.setCells w.heap.size ((i + 1) * 4) (xs.drop (i * 4)) := ⟨_, rfl⟩
  obtain ⟨hw3, hg3⟩ := hw2d.write ((i + 1) * 4) (xs.drop (i * 4)) (by rw [hdl]; omega)
  have HC2 : Hid (∀ ty dc sc, (Builtin.copy_ #[104, 104] ty #[.slice (some ⟨w.heap.size, (i + 1) * 4, none⟩) (n - i) dc, .slice (some ⟨g, i * 4, none⟩) (n - i) sc]).run Tryd.prog W2.drew = .ok (goInt (n - i : Nat)) W3) := Lib.hid (fun ty dc sc => by
    rw [hW3]
    exact run_copy_sz W2.drew 4 _ _ ty 111 w.heap.size _ _ dc ⟨g, i * 4, none⟩ _ sc (n - i) (xs.drop (i * 4)) Tryd.underlying104 sizeinsTen (by simp only [Nat.min_def]; split <;> omega) hdl
      (fun j u hu => by
        rw [addr_add]
        exact ho2.cellx (w := W2) (by rw [List.getElem?_drop] at hu; exact hu))
      (fun j hj => (hcs2 _ (by rw [hdl] at hj; omega)).1) (fun j hj => (hcs2 _ (by rw [hdl] at hj; omega)).2) (fun u hu => h1x u (List.mem_of_mem_drop hu)))
  rw [← hW3] at hw3 hg3
  have hlist : ((xs.take (i * 4) ++ ZA.toList).take (i * 4) ++ ec.toList ++ (xs.take (i * 4) ++ ZA.toList).drop (i * 4 + ec.toList.length)).take ((i + 1) * 4) ++ xs.drop (i * 4) ++ ((xs.take (i * 4) ++ ZA.toList).take (i * 4) ++ ec.toList ++ (xs.take (i * 4) ++ ZA.toList).drop (i * 4 + ec.toList.length)).drop ((i + 1) * 4 + (xs.drop (i * 4)).length) = xs.take (i * 4) ++ ec.toList ++ xs.drop (i * 4) := by
    rw [List.take_append_of_le_length (l₁ := xs.take (i * 4)) (by rw [htl]; omega), List.take_take, Nat.min_self]
    have e1 : (xs.take (i * 4) ++ ec.toList).length = (i + 1) * 4 := by rw [List.length_append, htl, hel]; omega
    rw [List.take_append_of_le_length (by rw [e1]; omega), List.take_of_length_le (l := xs.take (i * 4) ++ ec.toList) (by rw [e1]; omega)]
    rw [List.drop_eq_nil_of_le (i := (i + 1) * 4 + (xs.drop (i * 4)).length) (by
      rw [List.length_append, e1, List.length_drop, List.length_append, htl, hel, Array.length_toList, hZAs, hdl]; omega), List.append_nil]
  rw [hlist] at hw3
  have HW3 := Lib.hid hw3
  have HB3 : Hid (Below w.heap.size w W3) := Lib.hid ((hb02.drew).grown hg3 hb02.size (fun k hk => by cases hk; exact Nat.le_refl _))
  have hz2 : ¬ ((i : Int) = (n : Int)) := by omega
  have hz3 : (c : Int) < (n : Int) + 1 := by omega
  have hGi : ¬ (G = i) := by omega
  have hGim : ¬ (G = i + 1) := by omega
  have hci : ¬ (c = i) := by omega
  have hic : i ≤ c := by omega
  have hin : i ≤ n := by omega
  have hb3 : (i : Int) ≤ (n : Int) := by omega
  have hw1' : IntKind.i64.wrap ((i : Int) + 1) = (i : Int) + 1 := by rw [IntKind.wrap_i64]; omega
  have hb1' : (0 : Int) ≤ (i : Int) + 1 := by omega
  have htn : ((i : Int) + 1).toNat = i + 1 := by omega
  clear h1 h1x hb ho hw1 hcs1 hb1 hb01 hb02 ho2 hw2 hw2d hg2 hg3 hw3 hcs2 hlist hW1 hW2 hW3 hdl hxl hel hec hkk hik hold hG hZA hZB hZAs hZBs hW1h htl hi0 hz0 hzs hzb hnc
  go_enter Tryd.func56, Tryd.ntmps56
  go_wp2_with (at_builtin; go_must (refine l_append rfl _ _ 104 3 rfl _ _ rfl rfl (HA.out _) ?_); go_must (refine Hid.out ?_))
  refine Lib.hid ?_
  go_wp2_with fail
  rw [HC1.out]
  go_wp2_with fail
  go_region_law (refine step_copy rfl _ _ 104 104 rfl (.slice (some ⟨w.heap.size, (i + 1) * 4, none⟩) (n - i) (G - (i + 1))) (.slice (some ⟨g, i * 4, none⟩) (n - i) (c - i)) (by simp [Act.eval, Act.put]) (by simp [Act.eval, Act.put]) (HC2.out 3 (G - (i + 1)) (c - i)) ?_)
  go_wp2_with fail
  go_ret
  exact ⟨G, rfl, HW3.out, HB3.out⟩
/-- One element is put in, anywhere. -/
theorem insTen_any (base b : Nat) (q : Option Addr) (n c i : Nat) (xs : List Value) (ec : Array Value) (w : World) (hec : ec.size = 4) (h1 : ∀ u ∈ ec.toList, u.oneCell' = true) (h1x : ∀ u ∈ xs, u.oneCell' = true) (hb : w.heap[b]? = some (.cells ec 111 (0, 0))) (hne : (Value.slice q n c).ownBlock ≠ some b)
    (ho : Ow w base 111 4 (.slice q n c) n xs) (hi : i ≤ n) (hl : n ≤ 1000000) (hbs : base ≤ w.heap.size) :
    Calls Tryd.prog 56 #[.slice q n c, .int .i64 i, .slice (some ⟨b, 0, none⟩) 1 1] w fun e w' => ∃ q' c', e = .returned (.slice q' (n + 1) c') ∧ Ow w' base 111 4 (.slice q' (n + 1) c') (n + 1) (xs.take (i * 4) ++ ec.toList ++ xs.drop (i * 4)) ∧ w.grownBy w' (Value.slice q n c).ownBlock ∧
      (∀ k, (Value.slice q' (n + 1) c').ownBlock = some k → (Value.slice q n c).ownBlock = some k ∨ w.heap.size ≤ k) := by
  rcases Nat.lt_or_eq_of_le hi with hlt | rfl
  · obtain ⟨g, rfl⟩ := ho.some_of_lt (by omega)
    by_cases hc : n + 1 ≤ c
    · refine (insTen_shift base b g n c i xs ec w hec h1 h1x hb (fun e => hne (by rw [e]; rfl)) ho hlt hl hc).mono ?_
      rintro e w' ⟨rfl, h2, h3⟩
      exact ⟨_, c, rfl, h2, h3, fun k hk => .inl hk⟩
    · refine (insTen_grow base b g n c i xs ec w hec h1 h1x hb ho hlt hl (by omega) hbs).mono ?_
      rintro e w' ⟨c', rfl, h2, h3⟩
      exact ⟨_, c', rfl, h2, ⟨h3.os, h3.tape, h3.output, h3.size, fun k hk _ => h3.block k hk⟩, fun k hk => .inr (by cases hk; exact Nat.le_refl _)⟩
  · refine (insTen_end base b q i c xs ec w hec h1 hb ho hl hbs).mono ?_
    rintro e w' ⟨q', c', rfl, h2, h3, h4⟩
    have hxl := ho.1
    exact ⟨q', c', rfl, by rw [List.take_of_length_le (by omega), List.drop_eq_nil_of_le (by omega), List.append_nil]; exact h2, h3, h4⟩
end Ten
end Go.Proofs.YtmkoiddfkanmiaaDoor

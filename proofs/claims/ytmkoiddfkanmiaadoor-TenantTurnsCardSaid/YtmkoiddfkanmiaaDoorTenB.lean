/- The walks of a table's find, get, State, Get, Place. -/
import Derived.Test.YtmkoiddfkanmiaaDoorTenA
import Derived.Test.YtmkoiddfkanmiaaDoorCadR
namespace Go.Proofs.YtmkoiddfkanmiaaDoor
open Go.RowKit Bits Mem Sha Cad
namespace Mem
theorem Ow.set {w : World} {B g n s c j : Nat} {e : TypeId} {xs : List Value} (h : Ow w B e s (.slice (some ⟨g, 0, none⟩) n c) n xs) (v : Value) (hj : j < n * s) : Ow (w.setCell ⟨g, j, none⟩ v) B e s (.slice (some ⟨g, 0, none⟩) n c) n (xs.set j v) := by
  have hw := (h.write j [v] (by simp; omega)).1
  have e1 : xs.take j ++ [v] ++ xs.drop (j + [v].length) = xs.set j v := by
    rw [List.set_eq_take_append_cons_drop, if_pos (by have := h.1; omega)]
    simp
  rw [e1] at hw
  exact hw
theorem Ow.free {w : World} {B g n s c j : Nat} {e : TypeId} {xs : List Value} (h : Ow w B e s (.slice (some ⟨g, 0, none⟩) n c) n xs) (hj : j < n * s) : w.frozen? ⟨g, j, none⟩ = false :=
  (h.cells j (Nat.lt_of_lt_of_le hj (Nat.mul_le_mul_right _ h.cap.1))).2
end Mem
namespace Ten
theorem tens_append (A B : List Ten) : tens (A ++ B) = tens A ++ tens B := by simp [tens]
theorem tens_cons (x : Ten) (B : List Ten) : tens (x :: B) = (tenA x).toList ++ tens B := by simp [tens, tenA]
theorem tens_take : ∀ (L : List Ten) (n : Nat), (tens L).take (n * 4) = tens (L.take n)
  | [], n => by simp [tens]
  | x :: L, 0 => by simp [tens]
  | x :: L, n + 1 => by
    rw [List.take_succ_cons, tens_cons, tens_cons, ← tens_take L n, List.take_append, List.take_of_length_le (by simp [tenA]; omega)]
    congr 2
    simp [tenA]
    omega
theorem tens_drop : ∀ (L : List Ten) (n : Nat), (tens L).drop (n * 4) = tens (L.drop n)
  | [], n => by simp [tens]
  | x :: L, 0 => by simp
  | x :: L, n + 1 => by
    rw [List.drop_succ_cons, tens_cons, ← tens_drop L n, List.drop_append, List.drop_eq_nil_of_le (by simp [tenA]; omega), List.nil_append]
    congr 1
    simp [tenA]
    omega
theorem tens_one (L : List Ten) : ∀ u ∈ tens L, u.oneCell' = true := by
  intro u hu
  simp only [tens, List.mem_flatMap] at hu
  obtain ⟨x, _, hx⟩ := hu
  simp at hx
  rcases hx with rfl | rfl | rfl | rfl <;> rfl
/-- What is read of one. -/
theorem tab_cells {w : World} {B g c n k : Nat} {L : List Ten} {x : Ten} (h : Ow w B 111 4 (.slice (some ⟨g, 0, none⟩) n c) n (tens L)) (_ : L.length = n) (hx : L[k]? = some x) :
    w.cell? ⟨g, k * 4, none⟩ = some (.string ⟨x.id.toArray⟩) ∧ w.cell? ⟨g, k * 4 + 1, none⟩ = some (.int .i64 x.state) ∧ w.cell? ⟨g, k * 4 + 2, none⟩ = some (.int .i64 x.place) ∧ w.cell? ⟨g, k * 4 + 3, none⟩ = some (.pointer x.dir) ∧ w.frozen? ⟨g, k * 4 + 1, none⟩ = false ∧ w.frozen? ⟨g, k * 4 + 3, none⟩ = false := by
  have hk := (List.getElem?_eq_some_iff.1 hx).1
  refine ⟨h.cellx (w := w) (tens_get L k x hx 0 (by decide)), h.cellx (w := w) (tens_get L k x hx 1 (by decide)), h.cellx (w := w) (tens_get L k x hx 2 (by decide)), h.cellx (w := w) (tens_get L k x hx 3 (by decide)), h.free (by omega), h.free (by omega)⟩
/-- One of them is turned. -/
theorem tens_set (L : List Ten) (k : Nat) (x y : Ten) (hx : L[k]? = some x) (j : Nat) (hj : j < 4) (v : Value) (h : (tenA y).toList = (tenA x).toList.set j v) : (tens L).set (k * 4 + j) v = tens (L.set k y) := by
  have hk := (List.getElem?_eq_some_iff.1 hx).1
  apply List.ext_getElem?
  intro i
  have hl := tens_length L
  have hl2 := tens_length (L.set k y)
  rw [List.length_set] at hl2
  rw [List.getElem?_set]
  by_cases hi : i < L.length * 4
  · obtain ⟨a, r, hr, rfl⟩ : ∃ a r, r < 4 ∧ i = a * 4 + r := ⟨i / 4, i % 4, Nat.mod_lt _ (by decide), by omega⟩
    have ha : a < L.length := by omega
    by_cases hak : a = k
    · subst hak
      rw [tens_get (L.set a y) a y (by rw [List.getElem?_set_self hk]) r hr, h, List.getElem?_set]
      by_cases hrj : r = j
      · subst hrj
        rw [if_pos rfl, if_pos (by omega), if_pos rfl, if_pos (by show r < 4; omega)]
      · rw [if_neg (by omega), if_neg (fun e => hrj e.symm), tens_get L a x hx r hr]
    · obtain ⟨z, hz⟩ : ∃ z, L[a]? = some z := ⟨_, List.getElem?_eq_getElem ha⟩
      rw [if_neg (by omega), tens_get L a z hz r hr, tens_get _ a z (by rw [List.getElem?_set_ne (fun e => hak e.symm)]; exact hz) r hr]
  · rw [if_neg (by omega), List.getElem?_eq_none (by omega), List.getElem?_eq_none (by omega)]
set_option maxRecDepth 100000 in
set_option maxHeartbeats 1000000 in
theorem findT_any (sb base : Nat) (q : Option Addr) (c : Nat) (pl : Int) (L : List Ten) (qi : Option Addr) (ci : Nat) (id : List UInt8) (w : World) (h : TabAt w sb base q c pl L) (hl : L.length ≤ 1000000) (hm : Srt (L.map core)) (hi : Rd w 1 (.slice qi id.length ci) id.length (bys id)) :
    Calls Tryd.prog 45 #[.pointer (some ⟨sb, 0, none⟩), .slice qi id.length ci] w fun e w' => e = .returned (.tuple #[.int .i64 (place (L.map core) id), .bool (has (L.map core) id)]) ∧ Below w.heap.size w w' := by
  have HI := Lib.hid hi
  have HH := Lib.hid h
  have HM := Lib.hid hm
  obtain ⟨c0, c1, _, _⟩ := h.cells
  have hsl := h.lt
  clear h hm hi
  go_enter Tryd.func45, Tryd.ntmps45
  go_wp2_with fail
  obtain ⟨n, hn⟩ : ∃ n, n = place (L.map core) id := ⟨_, rfl⟩
  obtain ⟨f, hf⟩ : ∃ f, f = has (L.map core) id := ⟨_, rfl⟩
  have HN := Lib.hid hn
  have HF := Lib.hid hf
  clear hn hf
  refine Rc.region (w.heap.size) 9 [Rc.F 6 (fun _ => .tuple #[.int .i64 (n : Int), .bool f]) (fun _ _ _ => True)] [] (by kernel_rfl) (Nat.le_refl _) (by kernel_rfl) ?_; intro p; simp only [List.take, List.drop]
  iterate 5 (refine Rc.rK rfl rfl ?_; intro K hK; apply Exists.intro; refine ⟨?_, ?_⟩; (focus (intro x hx; have e1 := Rc.cell_le hx hsl c1; go_simp; (first | (fail) | ((try go_bits); (try go_simp); (try rfl))))); go_simp; refine hK _ ?_; clear hK K)
  refine Rc.r_str rfl rfl 24 9 _ rfl 5 Tryd.underlying9 Tryd.underlying24 Tryd.underlying5 _ _ (id) rfl (fun x hx => HI.out.below (Rc.undrew hx)) ?_; intro K hK; go_simp; refine hK _ ?_; clear hK K
  refine Rc.fK rfl rfl rfl rfl ?_ ?_
  · intro x Fs hx hle hg K hK
    have hb := bsearchT_any q c L id x (Rd.of_ow (HH.out.below (Rc.undrew hx)).2.2) hl (HM.out.mono id)
    go_wp2_with fail
    refine hb.mono ?_
    rintro e x' ⟨n', hs, rfl, hb'⟩
    obtain rfl : n = n' := HN.out.trans hs.place_eq.symm
    have hf2 : foundAt (L.map core) id n = f := by rw [HF.out, HN.out]; rfl
    rw [hf2]
    go_wp2_with fail
    exact hK Rc.dflt x' hb' (fun _ _ _ _ => trivial)
  intro K hK; go_simp; refine hK _ ?_; clear hK K
  iterate 2 (refine Rc.rK rfl rfl ?_; intro K hK; apply Exists.intro; refine ⟨?_, ?_⟩; (focus (intro x hx;  go_simp; (first | (fail) | ((try go_bits); (try go_simp); (try rfl))))); go_simp; refine hK _ ?_; clear hK K)
  refine Rc.done fun wz Fs hx hle hg => ?_
  have HBZ := Lib.hid (Rc.undrew hx)
  clear hx hle hg
  go_wp2_with fail
  refine NoPanic.normal ?_
  go_wp2_with fail
  go_ret2
  exact ⟨by rw [← HN.out, ← HF.out]; rfl, HBZ.out⟩
/-- What stands in the way of one who is live or held. -/
def missD (C : List One) (id : List UInt8) : Int := match (if has C id then C[place C id]? else none) with
  | some x => if x.period = 3 then 9 else 0
  | none => 10
theorem missD_none {C : List One} {id : List UInt8} (h : has C id = false) : missD C id = 10 := by unfold missD; rw [if_neg (by rw [h]; decide)]
theorem missD_some {C : List One} {id : List UInt8} {x : One} (h : has C id = true) (hx : C[place C id]? = some x) : missD C id = if x.period = 3 then 9 else 0 := by unfold missD; rw [if_pos h, hx]
theorem has_ten {L : List Ten} {id : List UInt8} (h : has (L.map core) id = true) : ∃ x, L[place (L.map core) id]? = some x ∧ x.id = id := by
  obtain ⟨y, hy, he⟩ := has_some h
  rw [List.getElem?_map] at hy
  obtain ⟨x, hx, rfl⟩ := Option.map_eq_some_iff.1 hy
  exact ⟨x, hx, he⟩
theorem missD_ten {L : List Ten} {id : List UInt8} {x : Ten} (h : has (L.map core) id = true) (hx : L[place (L.map core) id]? = some x) : missD (L.map core) id = if x.state = 3 then 9 else 0 :=
  missD_some h (by rw [List.getElem?_map, hx]; rfl)
set_option maxRecDepth 100000 in
set_option maxHeartbeats 1000000 in
theorem getT_any (sb base : Nat) (q : Option Addr) (c : Nat) (pl : Int) (L : List Ten) (qi : Option Addr) (ci : Nat) (id : List UInt8) (w : World) (h : TabAt w sb base q c pl L) (hl : L.length ≤ 1000000) (hm : Srt (L.map core)) (hi : Rd w 1 (.slice qi id.length ci) id.length (bys id)) :
    Calls Tryd.prog 43 #[.pointer (some ⟨sb, 0, none⟩), .slice qi id.length ci] w fun e w' => ((missD (L.map core) id = 0 ∧ ∃ g x, q = some ⟨g, 0, none⟩ ∧ L[place (L.map core) id]? = some x ∧ has (L.map core) id = true ∧ ¬ x.state = 3 ∧ e = .returned (.tuple #[.pointer (some ⟨g, place (L.map core) id * 4, none⟩), .int .i64 0])) ∨
      (¬ missD (L.map core) id = 0 ∧ e = .returned (.tuple #[.pointer none, .int .i64 (missD (L.map core) id)]))) ∧ Below w.heap.size w w' := by
  have HF := Lib.hid (findT_any sb base q c pl L qi ci id w h hl hm hi)
  have HH := Lib.hid h
  clear h hm hi
  go_enter Tryd.func43, Tryd.ntmps43
  go_wp2_with fail
  refine HF.out.mono ?_
  rintro e w2 ⟨rfl, hb⟩
  obtain ⟨n, hn⟩ : ∃ n, n = place (L.map core) id := ⟨_, rfl⟩
  have H2 := Lib.hid (HH.out.below hb)
  obtain ⟨c0, c1, _, _⟩ := H2.out.cells
  have HB2 := Lib.hid hb
  clear hb
  cases hf : has (L.map core) id with
  | false =>
    have HV := Lib.hid (missD_none hf)
    rw [← hn]
    clear hf hn
    go_wp2_with fail
    go_ret2
    exact ⟨.inr ⟨by rw [HV.out]; decide, by rw [HV.out]; rfl⟩, HB2.out⟩
  | true =>
    obtain ⟨x, hx, hid⟩ := has_ten hf
    have HV := Lib.hid (missD_ten hf hx)
    have HHA := Lib.hid hf
    have HX := Lib.hid hx
    rw [← hn] at hx
    rw [← hn]
    have hnl := (List.getElem?_eq_some_iff.1 hx).1
    have hnI : (n : Int) < (L.length : Int) := by omega
    obtain ⟨g, rfl⟩ := H2.out.2.2.some_of_lt (by omega)
    obtain ⟨r0, r1, r2, r3, _, _⟩ := tab_cells H2.out.2.2 rfl hx
    have HN := Lib.hid hn
    obtain ⟨xi, xs, xp, xd⟩ := x
    have r1 : w2.cell? ⟨g, n * 4 + 1, none⟩ = some (.int .i64 xs) := r1
    clear hf hx hid hn
    by_cases h3 : xs = 3
    · subst h3
      go_wp2_with fail
      go_ret2
      exact ⟨.inr ⟨by rw [HV.out]; decide, by rw [HV.out]; rfl⟩, HB2.out⟩
    · have h3B : (xs == 3) = false := by rw [beq_eq_false_iff_ne]; exact h3
      go_wp2_with fail
      go_ret2
      exact ⟨.inl ⟨by rw [HV.out, if_neg h3], g, _, rfl, HX.out, HHA.out, h3, by rw [← HN.out]; rfl⟩, HB2.out⟩
end Ten
end Go.Proofs.YtmkoiddfkanmiaaDoor

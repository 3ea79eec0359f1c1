/- The walks of the tenants' comparison, New and find. -/
import Derived.Test.YtmkoiddfkanmiaaDoorGCadJ
import Derived.Test.YtmkoiddfkanmiaaDoorSlI
namespace Go.Proofs.YtmkoiddfkanmiaaDoor
open Go.RowKit Bits Mem Sha Cad
namespace Ten
/-- One of a table of tenants. -/
structure Ten where
  id : List UInt8
  state : Int
  place : Int
  dir : Option Addr
/-- What the document knows of one: the id, the state (as a period), the place (as an age). -/
def core (x : Ten) : One := ⟨x.id, x.state, x.place⟩
def tenA (x : Ten) : Array Value := #[.string ⟨x.id.toArray⟩, .int .i64 x.state, .int .i64 x.place, .pointer x.dir]
def tens (L : List Ten) : List Value := L.flatMap fun x => [.string ⟨x.id.toArray⟩, .int .i64 x.state, .int .i64 x.place, .pointer x.dir]
set_option maxRecDepth 100000 in
set_option maxHeartbeats 1000000 in
theorem cmpT_any (x : Ten) (b : List UInt8) (w : World) :
    Calls Tryd.prog 58 #[.agg (tenA x), .string ⟨b.toArray⟩] w fun e w' => e = .returned (.int .i64 (cmpB x.id b)) ∧ Below w.heap.size w w' := by
  obtain ⟨i, p, a, d⟩ := x
  unfold tenA
  go_enter Tryd.func58, Tryd.ntmps58
  go_wp2_with fail
  refine (compare_any i b _).mono ?_
  rintro e w2 ⟨rfl, hw⟩
  subst hw
  go_wp2_with fail
  go_ret
  exact ⟨rfl, (Below.refl _ _).alloc (Nat.le_refl _) _⟩
set_option maxRecDepth 100000 in
set_option maxHeartbeats 1000000 in
theorem newTab_any (n : Int) (h1 : 1 ≤ n) (h2 : n ≤ 8) (w : World) : Calls Tryd.prog 12 #[.int .i64 n] w fun e w' => e = .returned (.tuple #[.pointer (some ⟨w.heap.size, 0, none⟩), .int .i64 0]) ∧ w' = w.alloc (.cells #[.int .i64 n, .slice none 0 0] 106) := by
  have n1 : (n < 1) = False := by simp; omega
  have n2 : (8 < n) = False := by simp; omega
  go_enter Tryd.func12, Tryd.ntmps12
  go_wp2_with fail
  go_ret2
  exact ⟨rfl, rfl⟩
set_option maxRecDepth 100000 in
set_option maxHeartbeats 1000000 in
theorem newTab_bad (n : Int) (h : n < 1 ∨ 8 < n) (w : World) : Calls Tryd.prog 12 #[.int .i64 n] w fun e w' => e = .returned (.tuple #[.pointer none, .int .i64 1]) ∧ w' = w := by
  by_cases h1 : n < 1
  · clear h
    go_enter Tryd.func12, Tryd.ntmps12
    go_wp2_with fail
    go_ret2
    exact ⟨rfl, rfl⟩
  · have h2 : 8 < n := by omega
    have n1 : (n < 1) = False := by simp; omega
    clear h h1
    go_enter Tryd.func12, Tryd.ntmps12
    go_wp2_with fail
    go_ret2
    exact ⟨rfl, rfl⟩
/-- A table in memory. -/
def TabAt (w : World) (sb base : Nat) (q : Option Addr) (c : Nat) (pl : Int) (L : List Ten) : Prop :=
  w.heap[sb]? = some (.cells #[.int .i64 pl, .slice q L.length c] 106 (0, 0)) ∧ sb < base ∧ Ow w base 111 4 (.slice q L.length c) L.length (tens L)
theorem TabAt.cells {w : World} {sb base : Nat} {q : Option Addr} {c : Nat} {now : Int} {L : List Ten} (h : TabAt w sb base q c now L) : w.cell? ⟨sb, 0, none⟩ = some (.int .i64 now) ∧ w.cell? ⟨sb, 1, none⟩ = some (.slice q L.length c) ∧ w.frozen? ⟨sb, 0, none⟩ = false ∧ w.frozen? ⟨sb, 1, none⟩ = false :=
  ⟨(cell_of_row _ _ _ _ _ _ h.1).trans rfl, (cell_of_row _ _ _ _ _ _ h.1).trans rfl, by simp [World.frozen?, h.1], by simp [World.frozen?, h.1]⟩
theorem TabAt.below {w w' : World} {sb base : Nat} {q : Option Addr} {c : Nat} {now : Int} {L : List Ten} (h : TabAt w sb base q c now L) (hb : Below w.heap.size w w') : TabAt w' sb base q c now L :=
  ⟨(hb.block sb (Array.getElem?_eq_some_iff.1 h.1).1).trans h.1, h.2.1, h.2.2.below hb⟩
theorem TabAt.lt {w : World} {sb base : Nat} {q : Option Addr} {c : Nat} {now : Int} {L : List Ten} (h : TabAt w sb base q c now L) : sb < w.heap.size := (Array.getElem?_eq_some_iff.1 h.1).1
theorem tens_length (L : List Ten) : (tens L).length = L.length * 4 := by
  unfold tens
  induction L with
  | nil => rfl
  | cons x L ih => simp [List.flatMap_cons, ih]; omega
theorem tens_get : ∀ (L : List Ten) (k : Nat) (x : Ten), L[k]? = some x → ∀ j, j < 4 → (tens L)[k * 4 + j]? = (tenA x).toList[j]?
  | [], _, _, h, _, _ => by simp at h
  | y :: L, 0, x, h, j, hj => by
    cases h
    unfold tens tenA
    rw [List.flatMap_cons, List.getElem?_append_left (by simp; omega)]
    simp
  | y :: L, k + 1, x, h, j, hj => by
    have := tens_get L k x (by simpa using h) j hj
    rw [← this]
    unfold tens
    rw [List.flatMap_cons, List.getElem?_append_right (by simp; omega)]
    congr 1
    simp
    omega
theorem infoTenS (x : Ten) : (Tryd.prog.info? 111).map (·.size) = some (tenA x).toList.length := by
  show _ = some 4
  kernel_rfl
/-- One of a table's row, loaded. -/
theorem ten_load {w : World} {b off c : Nat} {L : List Ten} {k : Nat} {x : Ten} (h : Rd w 4 (.slice (some ⟨b, off, none⟩) L.length c) L.length (tens L)) (hx : L[k]? = some x) :
    (Instr.loadAt 111 (.pointer (some ⟨b, off + k * 4, none⟩))).run Tryd.prog w = .ok (.agg (tenA x)) w := by
  obtain ⟨b', off', he, _, _, _, hc⟩ := Rd_lt h (by have := (List.getElem?_eq_some_iff.1 hx).1; omega)
  cases he
  have := run_loadAt_mid (P := Tryd.prog) w b (off + k * 4) 111 (tenA x).toList _ (fun j u hu => by
    have hj := (List.getElem?_eq_some_iff.1 hu).1
    have hj4 : j < 4 := hj
    rw [Nat.add_assoc]
    exact hc _ u (by rw [tens_get L k x hx j hj4]; exact hu)) Tryd.underlying111 rfl (infoTenS x)
  simpa using this
set_option maxRecDepth 100000 in
set_option maxHeartbeats 2000000 in
theorem bsearchT_any (q : Option Addr) (c : Nat) (L : List Ten) (id : List UInt8) (w : World) (hL : Rd w 4 (.slice q L.length c) L.length (tens L)) (hl : L.length ≤ 1000000)
    (hm : ∀ (i j : Nat) (x y : One), i ≤ j → (L.map core)[i]? = some x → (L.map core)[j]? = some y → cmpB y.id id < 0 → cmpB x.id id < 0) :
    Calls Tryd.prog 57 #[.slice q L.length c, .string ⟨id.toArray⟩, .func (.func 58) #[] #[]] w fun e w' => ∃ n, Stands (L.map core) id n ∧ e = .returned (.tuple #[.int .i64 n, .bool (foundAt (L.map core) id n)]) ∧ Below w.heap.size w w' := by
  have HL := Lib.hid hL
  have HM := Lib.hid hm
  clear hL hm
  go_enter Tryd.func57, Tryd.ntmps57
  go_wp2_with fail
  go_loopw [9, 10] (fun a b wr => ∃ i j : Nat, a = .int .i64 i ∧ b = .int .i64 j ∧ i ≤ j ∧ j ≤ L.length ∧ Hid (∀ k x, k < i → (L.map core)[k]? = some x → cmpB x.id id < 0) ∧ Hid (∀ k x, j ≤ k → (L.map core)[k]? = some x → 0 ≤ cmpB x.id id) ∧ Hid (Below w.heap.size w wr)) (fun a b _ => (intOf b).toNat - (intOf a).toNat)
  case atStart => exact ⟨0, L.length, rfl, rfl, Nat.zero_le _, Nat.le_refl _, Lib.hid (fun k x h => by omega), Lib.hid (fun k x h hx => by have := (List.getElem?_eq_some_iff.1 hx).1; rw [List.length_map] at this; omega), Lib.hid (Below.refl _ _)⟩
  case round =>
    obtain ⟨i, j, rfl, rfl, hij, hj, HI, HJ, HB⟩ := hrel
    by_cases hlt : i < j
    · have hltI : (i : Int) < (j : Int) := by omega
      obtain ⟨h, hh⟩ : ∃ h : Nat, ((i : Int) + (j : Int)) / 2 = (h : Int) := ⟨(i + j) / 2, by omega⟩
      have hih : i ≤ h := by omega
      have hhj : h < j := by omega
      have hhl : h < L.length := by omega
      have hhI : (h : Int) < (L.length : Int) := by omega
      obtain ⟨x, hx⟩ : ∃ x, L[h]? = some x := ⟨_, List.getElem?_eq_getElem hhl⟩
      obtain ⟨b, o, hqe, hb, _, _, _⟩ := Rd_lt HL.out (by omega)
      subst hqe
      have HLD := Lib.hid (ten_load (HL.out.below HB.out) hx)
      have hc := cmpT_any x id wr
      obtain ⟨z, hz⟩ : ∃ z, z = cmpB x.id id := ⟨_, rfl⟩
      rw [← hz] at hc
      have HC := Lib.hid hc
      have HZ := Lib.hid hz
      have HX : Hid ((L.map core)[h]? = some (core x)) := Lib.hid (by rw [List.getElem?_map, hx]; rfl)
      clear hc hz hx
      by_cases hz0 : z < 0
      · go_wp2_with (refine l_load rfl _ _ rfl _ HLD.out ?_)
        refine HC.out.mono ?_
        rintro e w2 ⟨rfl, hb2⟩
        have HB2 : Hid (Below w.heap.size w w2) := Lib.hid (HB.out.trans (hb2.mono HB.out.size))
        clear hb2
        go_wp2_with fail
        refine ⟨⟨h + 1, j, by go_num, rfl, by omega, hj, Lib.hid (fun k y hk hy => ?_), HJ, HB2⟩, by simp [intOf]; omega⟩
        exact HM.out k h y (core x) (by omega) hy HX.out (by show cmpB x.id id < 0; rw [← HZ.out]; exact hz0)
      · have HZN := Lib.hid (Int.not_lt.1 hz0)
        go_wp2_with (refine l_load rfl _ _ rfl _ HLD.out ?_)
        refine HC.out.mono ?_
        rintro e w2 ⟨rfl, hb2⟩
        have HB2 : Hid (Below w.heap.size w w2) := Lib.hid (HB.out.trans (hb2.mono HB.out.size))
        clear hb2
        go_wp2_with fail
        refine ⟨⟨i, h, rfl, by go_num, by omega, by omega, HI, Lib.hid (fun k y hk hy => Int.not_lt.1 fun hlt0 => ?_), HB2⟩, by simp [intOf]; omega⟩
        exact Int.not_lt.2 HZN.out (by rw [HZ.out]; show cmpB (core x).id id < 0; exact HM.out h k (core x) y hk HX.out hy hlt0)
    · obtain rfl : i = j := by omega
      have HST : Hid (Stands (L.map core) id i) := Lib.hid ⟨by rw [List.length_map]; exact hj, HI.out, HJ.out⟩
      have hge : ¬ (i : Int) < (i : Int) := by omega
      by_cases hil : i < L.length
      · have hilI : (i : Int) < (L.length : Int) := by omega
        obtain ⟨x, hx⟩ : ∃ x, L[i]? = some x := ⟨_, List.getElem?_eq_getElem hil⟩
        obtain ⟨b, o, hqe, hb, _, _, _⟩ := Rd_lt HL.out (by omega)
        subst hqe
        have HLD := Lib.hid (ten_load (HL.out.below HB.out) hx)
        have hc := cmpT_any x id wr
        obtain ⟨z, hz⟩ : ∃ z, z = cmpB x.id id := ⟨_, rfl⟩
        rw [← hz] at hc
        have HC := Lib.hid hc
        have HF : Hid (foundAt (L.map core) id i = decide (z = 0)) := Lib.hid (by unfold foundAt; rw [List.getElem?_map, hx, hz]; rfl)
        clear hc hz hx
        go_wp2_with (refine unguard16 (by rfl) ?_; refine l_load rfl _ _ rfl _ HLD.out ?_)
        refine HC.out.mono ?_
        rintro e w2 ⟨rfl, hb2⟩
        have HB2 : Hid (Below w.heap.size w w2) := Lib.hid (HB.out.trans (hb2.mono HB.out.size))
        clear hb2
        by_cases hz0 : z = 0
        · have HF2 : Hid (foundAt (L.map core) id i = true) := Lib.hid (by rw [HF.out, decide_eq_true hz0])
          have hzI : (z == 0) = true := by rw [beq_iff_eq]; exact hz0
          clear hz0
          go_wp2_with fail
          go_ret2
          exact ⟨i, HST.out, by rw [HF2.out]; rfl, HB2.out⟩
        · have HF2 : Hid (foundAt (L.map core) id i = false) := Lib.hid (by rw [HF.out, decide_eq_false hz0])
          have hzI : (z == 0) = false := by rw [beq_eq_false_iff_ne]; exact hz0
          clear hz0
          go_wp2_with fail
          go_ret2
          exact ⟨i, HST.out, by rw [HF2.out]; rfl, HB2.out⟩
      · have hilI : ¬ (i : Int) < (L.length : Int) := by omega
        have HF : Hid (foundAt (L.map core) id i = false) := Lib.hid (by unfold foundAt; rw [List.getElem?_eq_none (by rw [List.length_map]; omega)])
        go_wp2_with fail
        go_ret2
        exact ⟨i, HST.out, by rw [HF.out]; rfl, HB.out⟩
end Ten
end Go.Proofs.YtmkoiddfkanmiaaDoor
/- The walks of a table's find, get, State, Get, Place. -/
namespace Go.Proofs.YtmkoiddfkanmiaaDoor
open Go.RowKit Bits Mem Sha Cad
namespace Mem
theorem Ow.set {w : World} {B g n s c j : Nat} {e : TypeId} {xs : List Value} (h : Ow w B e s (.slice (some ⟨g, 0, none⟩) n c) n xs) (v : Value) (hj : j < n * s) : Ow (w.setCell ⟨g, j, none⟩ v) B e s (.slice (some ⟨g, 0, none⟩) n c) n (xs.set j v) := by
  have hw := (h.write j [v] (by simp; omega)).1
  have e1 : xs.take j ++ [v] ++ xs.drop (j + [v].length) = xs.set j v := by
    rw [List.set_eq_take_append_cons_drop, if_pos (by have := h.1; omega)]
    simp
  rw [e1] at hw
  exact hw
theorem Ow.free {w : World} {B g n s c j : Nat} {e : TypeId} {xs : List Value} (h : Ow w B e s (.slice (some ⟨g, 0, none⟩) n c) n xs) (hj : j < n * s) : w.frozen? ⟨g, j, none⟩ = false :=
  (h.cells j (Nat.lt_of_lt_of_le hj (Nat.mul_le_mul_right _ h.cap.1))).2
end Mem
namespace Ten
theorem tens_append (A B : List Ten) : tens (A ++ B) = tens A ++ tens B := by simp [tens]
theorem tens_cons (x : Ten) (B : List Ten) : tens (x :: B) = (tenA x).toList ++ tens B := by simp [tens, tenA]
theorem tens_take : ∀ (L : List Ten) (n : Nat), (tens L).take (n * 4) = tens (L.take n)
  | [], n => by simp [tens]
  | x :: L, 0 => by simp [tens]
  | x :: L, n + 1 => by
    rw [List.take_succ_cons, tens_cons, tens_cons, ← tens_take L n, List.take_append, List.take_of_length_le (by simp [tenA]; omega)]
    congr 2
    simp [tenA]
    omega
theorem tens_drop : ∀ (L : List Ten) (n : Nat), (tens L).drop (n * 4) = tens (L.drop n)
  | [], n => by simp [tens]
  | x :: L, 0 => by simp
  | x :: L, n + 1 => by
    rw [List.drop_succ_cons, tens_cons, ← tens_drop L n, List.drop_append, List.drop_eq_nil_of_le (by simp [tenA]; omega), List.nil_append]
    congr 1
    simp [tenA]
    omega
theorem tens_one (L : List Ten) : ∀ u ∈ tens L, u.oneCell' = true := by
  intro u hu
  simp only [tens, List.mem_flatMap] at hu
  obtain ⟨x, _, hx⟩ := hu
  simp at hx
  rcases hx with rfl | rfl | rfl | rfl <;> rfl
/-- What is read of one. -/
theorem tab_cells {w : World} {B g c n k : Nat} {L : List Ten} {x : Ten} (h : Ow w B 111 4 (.slice (some ⟨g, 0, none⟩) n c) n (tens L)) (_ : L.length = n) (hx : L[k]? = some x) :
    w.cell? ⟨g, k * 4, none⟩ = some (.string ⟨x.id.toArray⟩) ∧ w.cell? ⟨g, k * 4 + 1, none⟩ = some (.int .i64 x.state) ∧ w.cell? ⟨g, k * 4 + 2, none⟩ = some (.int .i64 x.place) ∧ w.cell? ⟨g, k * 4 + 3, none⟩ = some (.pointer x.dir) ∧ w.frozen? ⟨g, k * 4 + 1, none⟩ = false ∧ w.frozen? ⟨g, k * 4 + 3, none⟩ = false := by
  have hk := (List.getElem?_eq_some_iff.1 hx).1
  refine ⟨h.cellx (w := w) (tens_get L k x hx 0 (by decide)), h.cellx (w := w) (tens_get L k x hx 1 (by decide)), h.cellx (w := w) (tens_get L k x hx 2 (by decide)), h.cellx (w := w) (tens_get L k x hx 3 (by decide)), h.free (by omega), h.free (by omega)⟩
/-- One of them is turned. -/
theorem tens_set (L : List Ten) (k : Nat) (x y : Ten) (hx : L[k]? = some x) (j : Nat) (hj : j < 4) (v : Value) (h : (tenA y).toList = (tenA x).toList.set j v) : (tens L).set (k * 4 + j) v = tens (L.set k y) := by
  have hk := (List.getElem?_eq_some_iff.1 hx).1
  apply List.ext_getElem?
  intro i
  have hl := tens_length L
  have hl2 := tens_length (L.set k y)
  rw [List.length_set] at hl2
  rw [List.getElem?_set]
  by_cases hi : i < L.length * 4
  · obtain ⟨a, r, hr, rfl⟩ : ∃ a r, r < 4 ∧ i = a * 4 + r := ⟨i / 4, i % 4, Nat.mod_lt _ (by decide), by omega⟩
    have ha : a < L.length := by omega
    by_cases hak : a = k
    · subst hak
      rw [tens_get (L.set a y) a y (by rw [List.getElem?_set_self hk]) r hr, h, List.getElem?_set]
      by_cases hrj : r = j
      · subst hrj
        rw [if_pos rfl, if_pos (by omega), if_pos rfl, if_pos (by show r < 4; omega)]
      · rw [if_neg (by omega), if_neg (fun e => hrj e.symm), tens_get L a x hx r hr]
    · obtain ⟨z, hz⟩ : ∃ z, L[a]? = some z := ⟨_, List.getElem?_eq_getElem ha⟩
      rw [if_neg (by omega), tens_get L a z hz r hr, tens_get _ a z (by rw [List.getElem?_set_ne (fun e => hak e.symm)]; exact hz) r hr]
  · rw [if_neg (by omega), List.getElem?_eq_none (by omega), List.getElem?_eq_none (by omega)]
set_option maxRecDepth 100000 in
set_option maxHeartbeats 1000000 in
theorem findT_any (sb base : Nat) (q : Option Addr) (c : Nat) (pl : Int) (L : List Ten) (qi : Option Addr) (ci : Nat) (id : List UInt8) (w : World) (h : TabAt w sb base q c pl L) (hl : L.length ≤ 1000000) (hm : Srt (L.map core)) (hi : Rd w 1 (.slice qi id.length ci) id.length (bys id)) :
    Calls Tryd.prog 45 #[.pointer (some ⟨sb, 0, none⟩), .slice qi id.length ci] w fun e w' => e = .returned (.tuple #[.int .i64 (place (L.map core) id), .bool (has (L.map core) id)]) ∧ Below w.heap.size w w' := by
  have HI := Lib.hid hi
  have HH := Lib.hid h
  have HM := Lib.hid hm
  obtain ⟨c0, c1, _, _⟩ := h.cells
  have hsl := h.lt
  clear h hm hi
  go_enter Tryd.func45, Tryd.ntmps45
  go_wp2_with fail
  obtain ⟨n, hn⟩ : ∃ n, n = place (L.map core) id := ⟨_, rfl⟩
  obtain ⟨f, hf⟩ : ∃ f, f = has (L.map core) id := ⟨_, rfl⟩
  have HN := Lib.hid hn
  have HF := Lib.hid hf
  clear hn hf
  refine Rc.region (w.heap.size) 9 [Rc.F 6 (fun _ => .tuple #[.int .i64 (n : Int), .bool f]) (fun _ _ _ => True)] [] (by kernel_rfl) (Nat.le_refl _) (by kernel_rfl) ?_; intro p; simp only [List.take, List.drop]
  iterate 5 (refine Rc.rK rfl rfl ?_; intro K hK; apply Exists.intro; refine ⟨?_, ?_⟩; (focus (intro x hx; have e1 := Rc.cell_le hx hsl c1; go_simp; (first | (fail) | ((try go_bits); (try go_simp); (try rfl))))); go_simp; refine hK _ ?_; clear hK K)
  refine Rc.r_str rfl rfl 24 9 _ rfl 5 Tryd.underlying9 Tryd.underlying24 Tryd.underlying5 _ _ (id) rfl (fun x hx => HI.out.below (Rc.undrew hx)) ?_; intro K hK; go_simp; refine hK _ ?_; clear hK K
  refine Rc.fK rfl rfl rfl rfl ?_ ?_
  · intro x Fs hx hle hg K hK
    have hb := bsearchT_any q c L id x (Rd.of_ow (HH.out.below (Rc.undrew hx)).2.2) hl (HM.out.mono id)
    go_wp2_with fail
    refine hb.mono ?_
    rintro e x' ⟨n', hs, rfl, hb'⟩
    obtain rfl : n = n' := HN.out.trans hs.place_eq.symm
    have hf2 : foundAt (L.map core) id n = f := by rw [HF.out, HN.out]; rfl
    rw [hf2]
    go_wp2_with fail
    exact hK Rc.dflt x' hb' (fun _ _ _ _ => trivial)
  intro K hK; go_simp; refine hK _ ?_; clear hK K
  iterate 2 (refine Rc.rK rfl rfl ?_; intro K hK; apply Exists.intro; refine ⟨?_, ?_⟩; (focus (intro x hx;  go_simp; (first | (fail) | ((try go_bits); (try go_simp); (try rfl))))); go_simp; refine hK _ ?_; clear hK K)
  refine Rc.done fun wz Fs hx hle hg => ?_
  have HBZ := Lib.hid (Rc.undrew hx)
  clear hx hle hg
  go_wp2_with fail
  refine NoPanic.normal ?_
  go_wp2_with fail
  go_ret2
  exact ⟨by rw [← HN.out, ← HF.out]; rfl, HBZ.out⟩
/-- What stands in the way of one who is live or held. -/
def missD (C : List One) (id : List UInt8) : Int := match (if has C id then C[place C id]? else none) with
  | some x => if x.period = 3 then 9 else 0
  | none => 10
theorem missD_none {C : List One} {id : List UInt8} (h : has C id = false) : missD C id = 10 := by unfold missD; rw [if_neg (by rw [h]; decide)]
theorem missD_some {C : List One} {id : List UInt8} {x : One} (h : has C id = true) (hx : C[place C id]? = some x) : missD C id = if x.period = 3 then 9 else 0 := by unfold missD; rw [if_pos h, hx]
theorem has_ten {L : List Ten} {id : List UInt8} (h : has (L.map core) id = true) : ∃ x, L[place (L.map core) id]? = some x ∧ x.id = id := by
  obtain ⟨y, hy, he⟩ := has_some h
  rw [List.getElem?_map] at hy
  obtain ⟨x, hx, rfl⟩ := Option.map_eq_some_iff.1 hy
  exact ⟨x, hx, he⟩
theorem missD_ten {L : List Ten} {id : List UInt8} {x : Ten} (h : has (L.map core) id = true) (hx : L[place (L.map core) id]? = some x) : missD (L.map core) id = if x.state = 3 then 9 else 0 :=
  missD_some h (by rw [List.getElem?_map, hx]; rfl)
set_option maxRecDepth 100000 in
set_option maxHeartbeats 1000000 in
theorem getT_any (sb base : Nat) (q : Option Addr) (c : Nat) (pl : Int) (L : List Ten) (qi : Option Addr) (ci : Nat) (id : List UInt8) (w : World) (h : TabAt w sb base q c pl L) (hl : L.length ≤ 1000000) (hm : Srt (L.map core)) (hi : Rd w 1 (.slice qi id.length ci) id.length (bys id)) :
    Calls Tryd.prog 43 #[.pointer (some ⟨sb, 0, none⟩), .slice qi id.length ci] w fun e w' => ((missD (L.map core) id = 0 ∧ ∃ g x, q = some ⟨g, 0, none⟩ ∧ L[place (L.map core) id]? = some x ∧ has (L.map core) id = true ∧ ¬ x.state = 3 ∧ e = .returned (.tuple #[.pointer (some ⟨g, place (L.map core) id * 4, none⟩), .int .i64 0])) ∨
      (¬ missD (L.map core) id = 0 ∧ e = .returned (.tuple #[.pointer none, .int .i64 (missD (L.map core) id)]))) ∧ Below w.heap.size w w' := by
  have HF := Lib.hid (findT_any sb base q c pl L qi ci id w h hl hm hi)
  have HH := Lib.hid h
  clear h hm hi
  go_enter Tryd.func43, Tryd.ntmps43
  go_wp2_with fail
  refine HF.out.mono ?_
  rintro e w2 ⟨rfl, hb⟩
  obtain ⟨n, hn⟩ : ∃ n, n = place (L.map core) id := ⟨_, rfl⟩
  have H2 := Lib.hid (HH.out.below hb)
  obtain ⟨c0, c1, _, _⟩ := H2.out.cells
  have HB2 := Lib.hid hb
  clear hb
  cases hf : has (L.map core) id with
  | false =>
    have HV := Lib.hid (missD_none hf)
    rw [← hn]
    clear hf hn
    go_wp2_with fail
    go_ret2
    exact ⟨.inr ⟨by rw [HV.out]; decide, by rw [HV.out]; rfl⟩, HB2.out⟩
  | true =>
    obtain ⟨x, hx, hid⟩ := has_ten hf
    have HV := Lib.hid (missD_ten hf hx)
    have HHA := Lib.hid hf
    have HX := Lib.hid hx
    rw [← hn] at hx
    rw [← hn]
    have hnl := (List.getElem?_eq_some_iff.1 hx).1
    have hnI : (n : Int) < (L.length : Int) := by omega
    obtain ⟨g, rfl⟩ := H2.out.2.2.some_of_lt (by omega)
    obtain ⟨r0, r1, r2, r3, _, _⟩ := tab_cells H2.out.2.2 rfl hx
    have HN := Lib.hid hn
    obtain ⟨xi, xs, xp, xd⟩ := x
    have r1 : w2.cell? ⟨g, n * 4 + 1, none⟩ = some (.int .i64 xs) := r1
    clear hf hx hid hn
    by_cases h3 : xs = 3
    · subst h3
      go_wp2_with fail
      go_ret2
      exact ⟨.inr ⟨by rw [HV.out]; decide, by rw [HV.out]; rfl⟩, HB2.out⟩
    · have h3B : (xs == 3) = false := by rw [beq_eq_false_iff_ne]; exact h3
      go_wp2_with fail
      go_ret2
      exact ⟨.inl ⟨by rw [HV.out, if_neg h3], g, _, rfl, HX.out, HHA.out, h3, by rw [← HN.out]; rfl⟩, HB2.out⟩
end Ten
end Go.Proofs.YtmkoiddfkanmiaaDoor
/- The walks of a table's State, Get, Place, Hold, Free, Delete. -/
namespace Go.Proofs.YtmkoiddfkanmiaaDoor
open Go.RowKit Bits Mem Sha Cad
namespace Ten
/-- The one an id speaks of. -/
def theT (L : List Ten) (id : List UInt8) : Option Ten := if has (L.map core) id then L[place (L.map core) id]? else none
def stateT (L : List Ten) (id : List UInt8) : Int := match theT L id with
  | some x => x.state
  | none => 0
/-- The error of who asks for one that is live or held. -/
def missT (L : List Ten) (id : List UInt8) : Int := match theT L id with
  | some x => if x.state = 3 then 9 else 0
  | none => 10
theorem missT_eq (L : List Ten) (id : List UInt8) : missD (L.map core) id = missT L id := by
  unfold missD missT theT
  cases has (L.map core) id
  · rfl
  · simp only [if_true, List.getElem?_map]
    cases L[place (L.map core) id]? <;> rfl
def getT (L : List Ten) (id : List UInt8) (held : Bool) : Option Addr × Int := match theT L id with
  | some x => if x.state = 3 then (none, 9) else if x.state = 2 ∧ held = false then (none, 12) else (x.dir, 0)
  | none => (none, 10)
def placeT (L : List Ten) (id : List UInt8) : Int × Int := match theT L id with
  | some x => if x.state = 3 then (0, 9) else (x.place, 0)
  | none => (0, 10)
def turnT (L : List Ten) (id : List UInt8) (st : Int) : Int × List Ten := match theT L id with
  | some x => if x.state = 3 then (9, L) else if x.state = st then (12, L) else (0, L.set (place (L.map core) id) { x with state := st })
  | none => (10, L)
def delT (L : List Ten) (id : List UInt8) : (Int × Int) × List Ten := match theT L id with
  | some x => if x.state = 3 then ((0, 9), L) else ((x.place, 0), L.set (place (L.map core) id) { x with state := 3, dir := none })
  | none => ((0, 10), L)
theorem theT_some {L : List Ten} {id : List UInt8} {x : Ten} (h : has (L.map core) id = true) (hx : L[place (L.map core) id]? = some x) : theT L id = some x := by unfold theT; rw [if_pos h, hx]
theorem theT_none {L : List Ten} {id : List UInt8} (h : has (L.map core) id = false) : theT L id = none := by unfold theT; rw [if_neg (by rw [h]; decide)]
/-- What get tells, by the one it speaks of. -/
theorem get_cases {L : List Ten} {id : List UInt8} (h : ¬ missD (L.map core) id = 0) : (theT L id = none ∧ missD (L.map core) id = 10) ∨ (∃ x, theT L id = some x ∧ x.state = 3 ∧ missD (L.map core) id = 9) := by
  rw [missT_eq] at h ⊢
  unfold missT at h ⊢
  cases ht : theT L id with
  | none => exact .inl ⟨rfl, rfl⟩
  | some x =>
    rw [ht] at h
    by_cases h3 : x.state = 3
    · exact .inr ⟨x, rfl, h3, if_pos h3⟩
    · exact absurd (if_neg h3) h
set_option maxRecDepth 100000 in
set_option maxHeartbeats 1000000 in
theorem stateT_any (sb base : Nat) (q : Option Addr) (c : Nat) (pl : Int) (L : List Ten) (qi : Option Addr) (ci : Nat) (id : List UInt8) (w : World) (h : TabAt w sb base q c pl L) (hl : L.length ≤ 1000000) (hm : Srt (L.map core)) (hi : Rd w 1 (.slice qi id.length ci) id.length (bys id)) :
    Calls Tryd.prog 20 #[.pointer (some ⟨sb, 0, none⟩), .slice qi id.length ci] w fun e w' => e = .returned (.int .i64 (stateT L id)) ∧ Below w.heap.size w w' := by
  have HF := Lib.hid (findT_any sb base q c pl L qi ci id w h hl hm hi)
  have HH := Lib.hid h
  clear h hm hi
  go_enter Tryd.func20, Tryd.ntmps20
  go_wp2_with fail
  refine HF.out.mono ?_
  rintro e w2 ⟨rfl, hb⟩
  obtain ⟨n, hn⟩ : ∃ n, n = place (L.map core) id := ⟨_, rfl⟩
  have H2 := Lib.hid (HH.out.below hb)
  obtain ⟨c0, c1, _, _⟩ := H2.out.cells
  have HB2 := Lib.hid hb
  clear hb
  cases hf : has (L.map core) id with
  | false =>
    have HV : Hid (stateT L id = 0) := Lib.hid (by unfold stateT; rw [theT_none hf])
    rw [← hn]
    clear hf hn
    go_wp2_with fail
    go_ret
    exact ⟨by rw [HV.out]; rfl, HB2.out⟩
  | true =>
    obtain ⟨x, hx, hid⟩ := has_ten hf
    have HV : Hid (stateT L id = x.state) := Lib.hid (by unfold stateT; rw [theT_some hf hx])
    rw [← hn] at hx
    rw [← hn]
    have hnl := (List.getElem?_eq_some_iff.1 hx).1
    have hnI : (n : Int) < (L.length : Int) := by omega
    obtain ⟨g, rfl⟩ := H2.out.2.2.some_of_lt (by omega)
    obtain ⟨r0, r1, r2, r3, _, _⟩ := tab_cells H2.out.2.2 rfl hx
    clear hf hx hid hn
    go_wp2_with fail
    go_ret
    exact ⟨by rw [HV.out]; rfl, HB2.out⟩
set_option maxRecDepth 100000 in
set_option maxHeartbeats 1000000 in
theorem placeT_any (sb base : Nat) (q : Option Addr) (c : Nat) (pl : Int) (L : List Ten) (qi : Option Addr) (ci : Nat) (id : List UInt8) (w : World) (h : TabAt w sb base q c pl L) (hl : L.length ≤ 1000000) (hm : Srt (L.map core)) (hi : Rd w 1 (.slice qi id.length ci) id.length (bys id)) :
    Calls Tryd.prog 22 #[.pointer (some ⟨sb, 0, none⟩), .slice qi id.length ci] w fun e w' => e = .returned (.tuple #[.int .i64 (placeT L id).1, .int .i64 (placeT L id).2]) ∧ Below w.heap.size w w' := by
  have HG := Lib.hid (getT_any sb base q c pl L qi ci id w h hl hm hi)
  have HH := Lib.hid h
  clear h hm hi
  go_enter Tryd.func22, Tryd.ntmps22
  go_wp2_with fail
  refine HG.out.mono ?_
  rintro e w2 ⟨hor, hb⟩
  have H2 := Lib.hid (HH.out.below hb)
  have HB2 := Lib.hid hb
  obtain ⟨c0, c1, f0, f1⟩ := H2.out.cells
  clear hb
  rcases hor with ⟨_, g, x, rfl, hx, hhas, h3, rfl⟩ | ⟨hm, rfl⟩
  · have HV : Hid (placeT L id = (x.place, 0)) := Lib.hid (by unfold placeT; rw [theT_some hhas hx]; exact if_neg h3)
    obtain ⟨r0, r1, r2, r3, _, _⟩ := tab_cells H2.out.2.2 rfl hx
    clear hx hhas h3
    go_wp2_with fail
    go_ret2
    exact ⟨by rw [HV.out]; rfl, HB2.out⟩
  · rcases get_cases hm with ⟨ht, he⟩ | ⟨x, ht, h3, he⟩
    · have HV : Hid (placeT L id = (0, 10)) := Lib.hid (by unfold placeT; rw [ht])
      rw [he]
      clear ht he hm
      go_wp2_with fail
      go_ret2
      exact ⟨by rw [HV.out]; rfl, HB2.out⟩
    · have HV : Hid (placeT L id = (0, 9)) := Lib.hid (by unfold placeT; rw [ht]; exact if_pos h3)
      rw [he]
      clear ht he hm h3
      go_wp2_with fail
      go_ret2
      exact ⟨by rw [HV.out]; rfl, HB2.out⟩
set_option maxRecDepth 100000 in
set_option maxHeartbeats 1000000 in
theorem getD_any (sb base : Nat) (q : Option Addr) (c : Nat) (pl : Int) (L : List Ten) (qi : Option Addr) (ci : Nat) (id : List UInt8) (held : Bool) (w : World) (h : TabAt w sb base q c pl L) (hl : L.length ≤ 1000000) (hm : Srt (L.map core)) (hi : Rd w 1 (.slice qi id.length ci) id.length (bys id)) :
    Calls Tryd.prog 18 #[.pointer (some ⟨sb, 0, none⟩), .slice qi id.length ci, .bool held] w fun e w' => e = .returned (.tuple #[.pointer (getT L id held).1, .int .i64 (getT L id held).2]) ∧ Below w.heap.size w w' := by
  have HG := Lib.hid (getT_any sb base q c pl L qi ci id w h hl hm hi)
  have HH := Lib.hid h
  clear h hm hi
  go_enter Tryd.func18, Tryd.ntmps18
  go_wp2_with fail
  refine HG.out.mono ?_
  rintro e w2 ⟨hor, hb⟩
  have H2 := Lib.hid (HH.out.below hb)
  have HB2 := Lib.hid hb
  obtain ⟨c0, c1, f0, f1⟩ := H2.out.cells
  clear hb
  rcases hor with ⟨_, g, x, rfl, hx, hhas, h3, rfl⟩ | ⟨hm, rfl⟩
  · obtain ⟨r0, r1, r2, r3, _, _⟩ := tab_cells H2.out.2.2 rfl hx
    by_cases h2 : x.state = 2
    · cases held with
      | false =>
        have HV : Hid (getT L id false = (none, 12)) := Lib.hid (by unfold getT; rw [theT_some hhas hx]; show (if x.state = 3 then _ else _) = _; rw [if_neg h3, if_pos ⟨h2, rfl⟩])
        have h2B : (x.state == 2) = true := by rw [beq_iff_eq]; exact h2
        clear hx hhas h3 h2
        go_wp2_with fail
        go_ret2
        exact ⟨by rw [HV.out]; rfl, HB2.out⟩
      | true =>
        have HV : Hid (getT L id true = (x.dir, 0)) := Lib.hid (by unfold getT; rw [theT_some hhas hx]; show (if x.state = 3 then _ else _) = _; rw [if_neg h3, if_neg (by simp)])
        have h2B : (x.state == 2) = true := by rw [beq_iff_eq]; exact h2
        clear hx hhas h3 h2
        go_wp2_with fail
        go_ret2
        exact ⟨by rw [HV.out]; rfl, HB2.out⟩
    · have HV : Hid (getT L id held = (x.dir, 0)) := Lib.hid (by unfold getT; rw [theT_some hhas hx]; show (if x.state = 3 then _ else _) = _; rw [if_neg h3, if_neg (fun e => h2 e.1)])
      have h2B : (x.state == 2) = false := by rw [beq_eq_false_iff_ne]; exact h2
      clear hx hhas h3 h2
      go_wp2_with fail
      go_ret2
      exact ⟨by rw [HV.out]; rfl, HB2.out⟩
  · rcases get_cases hm with ⟨ht, he⟩ | ⟨x, ht, h3, he⟩
    · have HV : Hid (getT L id held = (none, 10)) := Lib.hid (by unfold getT; rw [ht])
      rw [he]
      clear ht he hm
      go_wp2_with fail
      go_ret2
      exact ⟨by rw [HV.out]; rfl, HB2.out⟩
    · have HV : Hid (getT L id held = (none, 9)) := Lib.hid (by unfold getT; rw [ht]; exact if_pos h3)
      rw [he]
      clear ht he hm h3
      go_wp2_with fail
      go_ret2
      exact ⟨by rw [HV.out]; rfl, HB2.out⟩
set_option maxRecDepth 100000 in
set_option maxHeartbeats 1000000 in
theorem turnT_any (sb base : Nat) (q : Option Addr) (c : Nat) (pl : Int) (L : List Ten) (qi : Option Addr) (ci : Nat) (id : List UInt8) (st : Int) (w : World) (h : TabAt w sb base q c pl L) (hl : L.length ≤ 1000000) (hm : Srt (L.map core)) (hi : Rd w 1 (.slice qi id.length ci) id.length (bys id)) :
    Calls Tryd.prog 44 #[.pointer (some ⟨sb, 0, none⟩), .slice qi id.length ci, .int .i64 st] w fun e w' => e = .returned (.int .i64 (turnT L id st).1) ∧ TabAt w' sb base q c pl (turnT L id st).2 ∧ Kp (fun k => k = sb ∨ (Value.slice q L.length c).ownBlock = some k) w w' := by
  have HG := Lib.hid (getT_any sb base q c pl L qi ci id w h hl hm hi)
  have HH := Lib.hid h
  clear h hm hi
  go_enter Tryd.func44, Tryd.ntmps44
  go_wp2_with fail
  refine HG.out.mono ?_
  rintro e w2 ⟨hor, hb⟩
  have H2 := Lib.hid (HH.out.below hb)
  have HB2 := Lib.hid hb
  obtain ⟨c0, c1, f0, f1⟩ := H2.out.cells
  clear hb
  rcases hor with ⟨_, g, x, rfl, hx, hhas, h3, rfl⟩ | ⟨hm, rfl⟩
  · obtain ⟨r0, r1, r2, r3, fr1, _⟩ := tab_cells H2.out.2.2 rfl hx
    by_cases h2 : x.state = st
    · have HV : Hid (turnT L id st = (12, L)) := Lib.hid (by unfold turnT; rw [theT_some hhas hx]; show (if x.state = 3 then _ else _) = _; rw [if_neg h3, if_pos h2])
      have h2B : (x.state == st) = true := by rw [beq_iff_eq]; exact h2
      clear hx hhas h3 h2
      go_wp2_with fail
      go_ret
      exact ⟨by rw [HV.out]; rfl, by rw [HV.out]; exact H2.out, Kp.of_below HB2.out⟩
    · obtain ⟨n, hn⟩ : ∃ n, n = place (L.map core) id := ⟨_, rfl⟩
      have HV : Hid (turnT L id st = (0, L.set n { x with state := st })) := Lib.hid (by unfold turnT; rw [theT_some hhas hx]; show (if x.state = 3 then _ else _) = _; rw [if_neg h3, if_neg h2, hn])
      have h2B : (x.state == st) = false := by rw [beq_eq_false_iff_ne]; exact h2
      rw [← hn] at hx r0 r1 r2 r3 fr1 ⊢
      have hnl := (List.getElem?_eq_some_iff.1 hx).1
      have ho := H2.out.2.2.set (.int .i64 st) (j := n * 4 + 1) (by omega)
      rw [tens_set L n x { x with state := st } hx 1 (by decide) (.int .i64 st) rfl] at ho
      obtain ⟨w3, hw3⟩ : ∃ w3, w3 = w2.setCell ⟨g, n * 4 + 1, none⟩ (.int .i64 st) := ⟨_, rfl⟩
      have hg3 : w2.grownBy w3 (some g) := by rw [hw3]; exact grown_setCell _ _ _ _
      rw [← hw3] at ho
      have hlt := H2.out.2.2.lt g rfl
      have HS3 : Hid (TabAt w3 sb base (some ⟨g, 0, none⟩) c pl (L.set n { x with state := st })) := Lib.hid ⟨by rw [List.length_set]; exact ((Kp.of_grown hg3).block sb H2.out.lt (fun e => by cases e; have := H2.out.2.1; omega)).trans H2.out.1, H2.out.2.1, by rw [List.length_set]; exact ho⟩
      have HK3 : Hid (Kp (fun k => k = sb ∨ (Value.slice (some ⟨g, 0, none⟩) L.length c).ownBlock = some k) w w3) := Lib.hid ((Kp.of_below HB2.out).trans ((Kp.of_grown hg3).weak (fun k hk => .inr hk)) (fun _ _ h => h))
      have HW3 := Lib.hid hw3
      clear hx hhas h3 h2 ho hg3 hw3 hn
      go_wp2_with (rw [← HW3.out])
      go_ret
      exact ⟨by rw [HV.out]; rfl, by rw [HV.out]; exact HS3.out, HK3.out⟩
  · rcases get_cases hm with ⟨ht, he⟩ | ⟨x, ht, h3, he⟩
    · have HV : Hid (turnT L id st = (10, L)) := Lib.hid (by unfold turnT; rw [ht])
      rw [he]
      clear ht he hm
      go_wp2_with fail
      go_ret
      exact ⟨by rw [HV.out]; rfl, by rw [HV.out]; exact H2.out, Kp.of_below HB2.out⟩
    · have HV : Hid (turnT L id st = (9, L)) := Lib.hid (by unfold turnT; rw [ht]; exact if_pos h3)
      rw [he]
      clear ht he hm h3
      go_wp2_with fail
      go_ret
      exact ⟨by rw [HV.out]; rfl, by rw [HV.out]; exact H2.out, Kp.of_below HB2.out⟩
end Ten
end Go.Proofs.YtmkoiddfkanmiaaDoor
/- The walks of a table's Hold, Free, Delete, Ids; none's answers. -/
namespace Go.Proofs.YtmkoiddfkanmiaaDoor
open Go.RowKit Bits Mem Sha Cad
namespace Ten
set_option maxRecDepth 100000 in
set_option maxHeartbeats 1000000 in
theorem holdT_any (sb base : Nat) (q : Option Addr) (c : Nat) (pl : Int) (L : List Ten) (qi : Option Addr) (ci : Nat) (id : List UInt8) (w : World) (h : TabAt w sb base q c pl L) (hl : L.length ≤ 1000000) (hm : Srt (L.map core)) (hi : Rd w 1 (.slice qi id.length ci) id.length (bys id)) :
    Calls Tryd.prog 19 #[.pointer (some ⟨sb, 0, none⟩), .slice qi id.length ci] w fun e w' => e = .returned (.int .i64 (turnT L id 2).1) ∧ TabAt w' sb base q c pl (turnT L id 2).2 ∧ Kp (fun k => k = sb ∨ (Value.slice q L.length c).ownBlock = some k) w w' := by
  have HT := Lib.hid (turnT_any sb base q c pl L qi ci id 2 w h hl hm hi)
  obtain ⟨r, hr⟩ : ∃ r, r = (turnT L id 2).1 := ⟨_, rfl⟩
  have HR := Lib.hid hr
  clear h hm hi hr
  go_enter Tryd.func19, Tryd.ntmps19
  go_wp2_with fail
  refine HT.out.mono ?_
  rintro e w2 ⟨rfl, hs, hk⟩
  rw [← HR.out]
  have HS := Lib.hid hs
  have HK := Lib.hid hk
  clear hs hk
  go_wp2_with fail
  go_ret
  exact ⟨by rw [← HR.out]; rfl, HS.out, HK.out⟩
set_option maxRecDepth 100000 in
set_option maxHeartbeats 1000000 in
theorem freeT_any (sb base : Nat) (q : Option Addr) (c : Nat) (pl : Int) (L : List Ten) (qi : Option Addr) (ci : Nat) (id : List UInt8) (w : World) (h : TabAt w sb base q c pl L) (hl : L.length ≤ 1000000) (hm : Srt (L.map core)) (hi : Rd w 1 (.slice qi id.length ci) id.length (bys id)) :
    Calls Tryd.prog 21 #[.pointer (some ⟨sb, 0, none⟩), .slice qi id.length ci] w fun e w' => e = .returned (.int .i64 (turnT L id 1).1) ∧ TabAt w' sb base q c pl (turnT L id 1).2 ∧ Kp (fun k => k = sb ∨ (Value.slice q L.length c).ownBlock = some k) w w' := by
  have HT := Lib.hid (turnT_any sb base q c pl L qi ci id 1 w h hl hm hi)
  obtain ⟨r, hr⟩ : ∃ r, r = (turnT L id 1).1 := ⟨_, rfl⟩
  have HR := Lib.hid hr
  clear h hm hi hr
  go_enter Tryd.func21, Tryd.ntmps21
  go_wp2_with fail
  refine HT.out.mono ?_
  rintro e w2 ⟨rfl, hs, hk⟩
  rw [← HR.out]
  have HS := Lib.hid hs
  have HK := Lib.hid hk
  clear hs hk
  go_wp2_with fail
  go_ret
  exact ⟨by rw [← HR.out]; rfl, HS.out, HK.out⟩
set_option maxRecDepth 100000 in
set_option maxHeartbeats 1000000 in
theorem delT_any (sb base : Nat) (q : Option Addr) (c : Nat) (pl : Int) (L : List Ten) (qi : Option Addr) (ci : Nat) (id : List UInt8) (w : World) (h : TabAt w sb base q c pl L) (hl : L.length ≤ 1000000) (hm : Srt (L.map core)) (hi : Rd w 1 (.slice qi id.length ci) id.length (bys id)) :
    Calls Tryd.prog 24 #[.pointer (some ⟨sb, 0, none⟩), .slice qi id.length ci] w fun e w' => e = .returned (.tuple #[.int .i64 (delT L id).1.1, .int .i64 (delT L id).1.2]) ∧ TabAt w' sb base q c pl (delT L id).2 ∧ Kp (fun k => k = sb ∨ (Value.slice q L.length c).ownBlock = some k) w w' := by
  have HG := Lib.hid (getT_any sb base q c pl L qi ci id w h hl hm hi)
  have HH := Lib.hid h
  clear h hm hi
  go_enter Tryd.func24, Tryd.ntmps24
  go_wp2_with fail
  refine HG.out.mono ?_
  rintro e w2 ⟨hor, hb⟩
  have H2 := Lib.hid (HH.out.below hb)
  have HB2 := Lib.hid hb
  obtain ⟨c0, c1, f0, f1⟩ := H2.out.cells
  clear hb
  rcases hor with ⟨_, g, x, rfl, hx, hhas, h3, rfl⟩ | ⟨hm, rfl⟩
  · obtain ⟨n, hn⟩ : ∃ n, n = place (L.map core) id := ⟨_, rfl⟩
    have HV : Hid (delT L id = ((x.place, 0), L.set n { x with state := 3, dir := none })) := Lib.hid (by unfold delT; rw [theT_some hhas hx]; show (if x.state = 3 then _ else _) = _; rw [if_neg h3, hn])
    rw [← hn] at hx ⊢
    have hnl := (List.getElem?_eq_some_iff.1 hx).1
    obtain ⟨r0, r1, r2, r3, fr1, fr3⟩ := tab_cells H2.out.2.2 rfl hx
    have ho1 := H2.out.2.2.set (.int .i64 3) (j := n * 4 + 1) (by omega)
    rw [tens_set L n x { x with state := 3 } hx 1 (by decide) (.int .i64 3) rfl] at ho1
    obtain ⟨w3, hw3⟩ : ∃ w3, w3 = w2.setCell ⟨g, n * 4 + 1, none⟩ (.int .i64 3) := ⟨_, rfl⟩
    have hg3 : w2.grownBy w3 (some g) := by rw [hw3]; exact grown_setCell _ _ _ _
    rw [← hw3] at ho1
    have hx1 : (L.set n { x with state := 3 })[n]? = some { x with state := 3 } := List.getElem?_set_self hnl
    have hln : (L.set n { x with state := 3 }).length = L.length := List.length_set
    obtain ⟨s0, s1, s2, s3, fs1, fs3⟩ := tab_cells (x := { x with state := 3 }) ho1 hln hx1
    have ho2 := ho1.set (.pointer none) (j := n * 4 + 3) (by omega)
    rw [tens_set (L.set n { x with state := 3 }) n { x with state := 3 } { x with state := 3, dir := none } hx1 3 (by decide) (.pointer none) rfl, List.set_set] at ho2
    obtain ⟨w4, hw4⟩ : ∃ w4, w4 = w3.setCell ⟨g, n * 4 + 3, none⟩ (.pointer none) := ⟨_, rfl⟩
    have hg4 : w3.grownBy w4 (some g) := by rw [hw4]; exact grown_setCell _ _ _ _
    rw [← hw4] at ho2
    have hx2 : (L.set n { x with state := 3, dir := none })[n]? = some { x with state := 3, dir := none } := List.getElem?_set_self hnl
    obtain ⟨t0, t1, t2, t3, _, _⟩ := tab_cells (x := { x with state := 3, dir := none }) ho2 List.length_set hx2
    have t2 : w4.cell? ⟨g, n * 4 + 2, none⟩ = some (.int .i64 x.place) := t2
    have hlt := H2.out.2.2.lt g rfl
    have hgl3 : g < w3.heap.size := Nat.lt_of_lt_of_le hlt.2 hg3.size
    have hne : ¬ sb = g := by have := H2.out.2.1; omega
    have HS4 : Hid (TabAt w4 sb base (some ⟨g, 0, none⟩) c pl (L.set n { x with state := 3, dir := none })) := Lib.hid ⟨by rw [List.length_set]; exact ((Kp.of_grown hg4).block sb (Nat.lt_of_lt_of_le H2.out.lt hg3.size) (fun e => by cases e; exact hne rfl)).trans (((Kp.of_grown hg3).block sb H2.out.lt (fun e => by cases e; exact hne rfl)).trans H2.out.1), H2.out.2.1, by rw [List.length_set]; exact ho2⟩
    have HK4 : Hid (Kp (fun k => k = sb ∨ (Value.slice (some ⟨g, 0, none⟩) L.length c).ownBlock = some k) w w4) := Lib.hid (((Kp.of_below HB2.out).trans ((Kp.of_grown hg3).weak (fun k hk => .inr hk)) (fun _ _ h => h)).trans ((Kp.of_grown hg4).weak (fun k hk => .inr hk)) (fun _ _ h => h))
    have HW3 := Lib.hid hw3
    have HW4 := Lib.hid hw4
    clear hx hhas h3 ho1 ho2 hg3 hg4 hw3 hw4 hx1 hx2 hln s0 s1 s2 t0 t1 t3 hn
    go_wp2_with (first | (rw [← HW3.out]) | (rw [← HW4.out]))
    go_ret2
    exact ⟨by rw [HV.out]; rfl, by rw [HV.out]; exact HS4.out, HK4.out⟩
  · rcases get_cases hm with ⟨ht, he⟩ | ⟨x, ht, h3, he⟩
    · have HV : Hid (delT L id = ((0, 10), L)) := Lib.hid (by unfold delT; rw [ht])
      rw [he]
      clear ht he hm
      go_wp2_with fail
      go_ret2
      exact ⟨by rw [HV.out]; rfl, by rw [HV.out]; exact H2.out, Kp.of_below HB2.out⟩
    · have HV : Hid (delT L id = ((0, 9), L)) := Lib.hid (by unfold delT; rw [ht]; exact if_pos h3)
      rw [he]
      clear ht he hm h3
      go_wp2_with fail
      go_ret2
      exact ⟨by rw [HV.out]; rfl, by rw [HV.out]; exact H2.out, Kp.of_below HB2.out⟩
set_option maxRecDepth 100000 in
set_option maxHeartbeats 1000000 in
theorem noneT (w : World) : Calls Tryd.prog 23 #[] w fun e w' => e = .returned (.pointer none) ∧ w' = w := by
  go_enter Tryd.func23, Tryd.ntmps23
  go_wp2_with fail
  go_ret
  exact ⟨rfl, rfl⟩
set_option maxRecDepth 100000 in
set_option maxHeartbeats 1000000 in
theorem get_noneT (q : Option Addr) (n c : Nat) (w : World) : Calls Tryd.prog 43 #[.pointer none, .slice q n c] w fun e w' => e = .returned (.tuple #[.pointer none, .int .i64 1]) ∧ w' = w := by
  go_enter Tryd.func43, Tryd.ntmps43
  go_wp2_with fail
  go_ret2
  exact ⟨rfl, rfl⟩
set_option maxRecDepth 100000 in
set_option maxHeartbeats 1000000 in
theorem imp_noneT (q d : Option Addr) (n c : Nat) (w : World) : Calls Tryd.prog 13 #[.pointer none, .slice q n c, .pointer d] w fun e w' => e = .returned (.tuple #[.int .i64 0, .int .i64 1]) ∧ w' = w := by
  go_enter Tryd.func13, Tryd.ntmps13
  go_wp2_with fail
  go_ret2
  exact ⟨rfl, rfl⟩
set_option maxRecDepth 100000 in
set_option maxHeartbeats 1000000 in
theorem del_noneT (q : Option Addr) (n c : Nat) (w : World) : Calls Tryd.prog 24 #[.pointer none, .slice q n c] w fun e w' => e = .returned (.tuple #[.int .i64 0, .int .i64 1]) ∧ w' = w := by
  go_enter Tryd.func24, Tryd.ntmps24
  go_wp2_with fail
  refine (get_noneT q n c w).mono ?_
  rintro e w2 ⟨rfl, rfl⟩
  go_wp2_with fail
  go_ret2
  exact ⟨rfl, rfl⟩
set_option maxRecDepth 100000 in
set_option maxHeartbeats 1000000 in
theorem getd_noneT (q : Option Addr) (n c : Nat) (b : Bool) (w : World) : Calls Tryd.prog 18 #[.pointer none, .slice q n c, .bool b] w fun e w' => e = .returned (.tuple #[.pointer none, .int .i64 1]) ∧ w' = w := by
  go_enter Tryd.func18, Tryd.ntmps18
  go_wp2_with fail
  refine (get_noneT q n c w).mono ?_
  rintro e w2 ⟨rfl, rfl⟩
  go_wp2_with fail
  go_ret2
  exact ⟨rfl, rfl⟩
set_option maxRecDepth 100000 in
set_option maxHeartbeats 1000000 in
theorem place_noneT (q : Option Addr) (n c : Nat) (w : World) : Calls Tryd.prog 22 #[.pointer none, .slice q n c] w fun e w' => e = .returned (.tuple #[.int .i64 0, .int .i64 1]) ∧ w' = w := by
  go_enter Tryd.func22, Tryd.ntmps22
  go_wp2_with fail
  refine (get_noneT q n c w).mono ?_
  rintro e w2 ⟨rfl, rfl⟩
  go_wp2_with fail
  go_ret2
  exact ⟨rfl, rfl⟩
set_option maxRecDepth 100000 in
set_option maxHeartbeats 1000000 in
theorem turn_noneT (q : Option Addr) (n c : Nat) (s : Int) (w : World) : Calls Tryd.prog 44 #[.pointer none, .slice q n c, .int .i64 s] w fun e w' => e = .returned (.int .i64 1) ∧ w' = w := by
  go_enter Tryd.func44, Tryd.ntmps44
  go_wp2_with fail
  refine (get_noneT q n c w).mono ?_
  rintro e w2 ⟨rfl, rfl⟩
  go_wp2_with fail
  go_ret
  exact ⟨rfl, rfl⟩
set_option maxRecDepth 100000 in
set_option maxHeartbeats 1000000 in
theorem hold_noneT (q : Option Addr) (n c : Nat) (w : World) : Calls Tryd.prog 19 #[.pointer none, .slice q n c] w fun e w' => e = .returned (.int .i64 1) ∧ w' = w := by
  go_enter Tryd.func19, Tryd.ntmps19
  go_wp2_with fail
  refine (turn_noneT q n c 2 w).mono ?_
  rintro e w2 ⟨rfl, rfl⟩
  go_wp2_with fail
  go_ret
  exact ⟨rfl, rfl⟩
set_option maxRecDepth 100000 in
set_option maxHeartbeats 1000000 in
theorem free_noneT (q : Option Addr) (n c : Nat) (w : World) : Calls Tryd.prog 21 #[.pointer none, .slice q n c] w fun e w' => e = .returned (.int .i64 1) ∧ w' = w := by
  go_enter Tryd.func21, Tryd.ntmps21
  go_wp2_with fail
  refine (turn_noneT q n c 1 w).mono ?_
  rintro e w2 ⟨rfl, rfl⟩
  go_wp2_with fail
  go_ret
  exact ⟨rfl, rfl⟩
set_option maxRecDepth 100000 in
set_option maxHeartbeats 1000000 in
theorem state_noneT (q : Option Addr) (n c : Nat) (w : World) : Calls Tryd.prog 20 #[.pointer none, .slice q n c] w fun e w' => e = .returned (.int .i64 0) ∧ w' = w := by
  go_enter Tryd.func20, Tryd.ntmps20
  go_wp2_with fail
  go_ret
  exact ⟨rfl, rfl⟩
set_option maxRecDepth 100000 in
set_option maxHeartbeats 1000000 in
theorem ids_noneT (s : Int) (w : World) : Calls Tryd.prog 25 #[.pointer none, .int .i64 s] w fun e w' => e = .returned (.slice none 0 0) ∧ w' = w := by
  go_enter Tryd.func25, Tryd.ntmps25
  go_wp2_with fail
  go_ret
  exact ⟨rfl, rfl⟩
set_option maxRecDepth 100000 in
set_option maxHeartbeats 1000000 in
theorem room_noneT (w : World) : Calls Tryd.prog 15 #[.pointer none] w fun e w' => e = .returned (.int .i64 0) ∧ w' = w := by
  go_enter Tryd.func15, Tryd.ntmps15
  go_wp2_with fail
  go_ret
  exact ⟨rfl, rfl⟩
/-- The ids of a state. -/
def idsT (L : List Ten) (st : Int) : List (List UInt8) := (L.filter fun x => x.state == st).map (·.id)
theorem idsT_succ {L : List Ten} {k : Nat} {x : Ten} (hx : L[k]? = some x) (st : Int) : idsT (L.take (k + 1)) st = idsT (L.take k) st ++ (if x.state == st then [x.id] else []) := by
  unfold idsT
  rw [List.take_add_one, hx, List.filter_append, List.map_append]
  congr 1
  simp only [Option.toList_some, List.filter_cons, List.filter_nil]
  split <;> rfl
theorem idsT_len (L : List Ten) (st : Int) : (idsT L st).length ≤ L.length := by
  unfold idsT
  rw [List.length_map]
  exact List.length_filter_le _ _
theorem infoStrT : (Tryd.prog.info? 9).map (fun i => (i.zero, i.size, i.bytes)) = some (some (.string ⟨#[]⟩), 1, 16) := by kernel_rfl
set_option maxRecDepth 100000 in
set_option maxHeartbeats 2000000 in
theorem idsT_any (sb base : Nat) (q : Option Addr) (c : Nat) (pl : Int) (L : List Ten) (st : Int) (w : World) (h : TabAt w sb base q c pl L) (hl : L.length ≤ 1000000) :
    Calls Tryd.prog 25 #[.pointer (some ⟨sb, 0, none⟩), .int .i64 st] w fun e w' => ∃ qo co, e = .returned (.slice qo (idsT L st).length co) ∧ Ow w' w.heap.size 9 1 (.slice qo (idsT L st).length co) (idsT L st).length (strsC (idsT L st)) ∧ Below w.heap.size w w' := by
  obtain ⟨i0, hi0, hz0, hz1, hz2⟩ := parts3M infoStrT
  have HH := Lib.hid h
  obtain ⟨c0, c1, _, _⟩ := h.cells
  clear h
  go_enter Tryd.func25, Tryd.ntmps25
  go_wp2_with fail
  go_loopw [5, 15] (fun ov iv wr => ∃ (k : Nat) (qo : Option Addr) (co : Nat) (O : List (List UInt8)), k ≤ L.length ∧ iv = .int .i64 k ∧ ov = .slice qo O.length co ∧ Hid (O = idsT (L.take k) st) ∧ Hid (Ow wr w.heap.size 9 1 (.slice qo O.length co) O.length (strsC O)) ∧ Hid (Below w.heap.size w wr)) (fun _ iv _ => L.length - (intOf iv).toNat)
  case atStart => exact ⟨0, none, 0, [], Nat.zero_le _, rfl, rfl, Lib.hid rfl, Lib.hid (Ow.nil _ _ _ _), Lib.hid (Below.refl _ _)⟩
  case round =>
    obtain ⟨k, qo, co, O, hk, rfl, rfl, HOD, HO, HB⟩ := hrel
    by_cases hlt : k < L.length
    · have hltI : (k : Int) < (L.length : Int) := by omega
      obtain ⟨x, hx⟩ : ∃ x, L[k]? = some x := ⟨_, List.getElem?_eq_getElem hlt⟩
      obtain ⟨g, rfl⟩ := HH.out.2.2.some_of_lt (by omega)
      have HS := Lib.hid (HH.out.below HB.out)
      have hld := ten_load (Rd.of_ow HS.out.2.2) hx
      rw [Nat.zero_add] at hld
      have HLD := Lib.hid hld
      have HT := Lib.hid (idsT_succ hx st)
      have hol : O.length ≤ k := by rw [HOD.out]; have := idsT_len (L.take k) st; rw [List.length_take] at this; omega
      obtain ⟨xi, xs, xp, xd⟩ := x
      have hrl := HB.out.size
      clear hx hld
      unfold tenA at HLD
      have hsv : (wr.alloc (.cells #[.string ⟨xi.toArray⟩, .int .i64 xs, .int .i64 xp, .pointer xd] 111)).heap.size = wr.heap.size + 1 := Array.size_push _
      have hbv : Below wr.heap.size wr (wr.alloc (.cells #[.string ⟨xi.toArray⟩, .int .i64 xs, .int .i64 xp, .pointer xd] 111)) := (Below.refl wr.heap.size wr).alloc (Nat.le_refl _) _
      by_cases hst : xs = st
      · have hstB : (xs == st) = true := by rw [beq_iff_eq]; exact hst
        obtain ⟨wl, hwl⟩ : ∃ wl, wl = (wr.alloc (.cells #[.string ⟨xi.toArray⟩, .int .i64 xs, .int .i64 xp, .pointer xd] 111)).alloc (.cells #[.string ⟨xi.toArray⟩] 9) := ⟨_, rfl⟩
        have hlit := Rd_lit (wr.alloc (.cells #[.string ⟨xi.toArray⟩, .int .i64 xs, .int .i64 xp, .pointer xd] 111)) #[.string ⟨xi.toArray⟩] 9 1 1 rfl (by decide)
        have hbl : Below wr.heap.size wr wl := by rw [hwl]; exact hbv.alloc (by rw [hsv]; omega) _
        rw [hsv, ← hwl] at hlit
        have HLIT := Lib.hid hlit
        have HWL := Lib.hid hwl
        have HOL := Lib.hid (HO.out.below hbl)
        have hws := hbl.size
        have HBL := Lib.hid hbl
        have HD1 : Hid (O ++ [xi] = idsT (L.take (k + 1)) st) := Lib.hid (by rw [HT.out, HOD.out]; show _ = _ ++ (if (xs == st) = true then _ else _); rw [if_pos hstB])
        clear hsv hlit hwl hbl hbv hst
        go_wp2_with (first | (refine l_load rfl _ _ rfl _ HLD.out ?_) | (at_builtin; go_must (rw [← HWL.out]); go_must (refine app_ow3 rfl _ _ 29 29 rfl w.heap.size 9 i0 (.string ⟨#[]⟩) 1 16 Tryd.underlying29 hi0 hz0 hz1 hz2 (by rfl) _ O.length _ rfl HOL.out 1 _ rfl (Rd.src Tryd.underlying29 HLIT.out (strsC_one [xi])) (by unfold maxLen; omega) (by omega) (by omega) ?_); go_must (intro v4 w4 how4 hg4 hn4); go_must (obtain ⟨q4, c4, rfl⟩ := Ow_form how4); go_must (refine Hid.out ?_)))
        refine Lib.hid ?_
        have hon : O.length + 1 = (O ++ [xi]).length := by simp
        have HO4 : Hid (Ow w4 w.heap.size 9 1 (.slice q4 (O ++ [xi]).length c4) (O ++ [xi]).length (strsC (O ++ [xi]))) := Lib.hid (by rw [strsC_append, ← hon]; exact how4)
        have hk4 : Kp (fun j => (Value.slice qo O.length co).ownBlock = some j) wr w4 := (Kp.of_below HBL.out).trans (Kp.of_grown hg4) (fun _ _ h => h)
        have HB4 : Hid (Below w.heap.size w w4) := Lib.hid (HB.out.trans (hk4.below hrl (fun j hj => (HO.out.lt j hj).1)))
        clear how4 hg4 hn4 hk4
        rw [hon]
        clear hon
        go_wp2_with fail
        exact ⟨⟨k + 1, q4, c4, O ++ [xi], by omega, by go_num, rfl, HD1, HO4, HB4⟩, by simp [intOf]; omega⟩
      · have hstB : (xs == st) = false := by rw [beq_eq_false_iff_ne]; exact hst
        obtain ⟨wl, hwl⟩ : ∃ wl, wl = wr.alloc (.cells #[.string ⟨xi.toArray⟩, .int .i64 xs, .int .i64 xp, .pointer xd] 111) := ⟨_, rfl⟩
        rw [← hwl] at hbv
        have HWL := Lib.hid hwl
        have HO4 := Lib.hid (HO.out.below hbv)
        have HB4 := Lib.hid (HB.out.trans (hbv.mono hrl))
        have HD1 : Hid (O = idsT (L.take (k + 1)) st) := Lib.hid (by rw [HT.out, ← HOD.out]; show _ = _ ++ (if (xs == st) = true then _ else _); rw [hstB]; simp)
        clear hsv hwl hbv hst
        go_wp2_with (refine l_load rfl _ _ rfl _ HLD.out ?_)
        rw [← HWL.out]
        exact ⟨⟨k + 1, qo, co, O, by omega, by go_num, rfl, HD1, HO4, HB4⟩, by simp [intOf]; omega⟩
    · have hltI : ¬ (k : Int) < (L.length : Int) := by omega
      obtain rfl : k = L.length := by omega
      have HE : Hid (O = idsT L st) := Lib.hid (by rw [HOD.out, List.take_length])
      go_wp2_with fail
      go_ret
      exact ⟨qo, co, by rw [← HE.out]; rfl, by rw [← HE.out]; exact HO.out, HB.out⟩
end Ten
end Go.Proofs.YtmkoiddfkanmiaaDoor
/- The walks of a table's Room and free. -/
namespace Go.Proofs.YtmkoiddfkanmiaaDoor
open Go.RowKit Bits Mem Sha Cad
namespace Ten
set_option maxRecDepth 100000 in
set_option maxHeartbeats 2000000 in
theorem roomT_any (sb base : Nat) (q : Option Addr) (c : Nat) (pl : Int) (L : List Ten) (w : World) (h : TabAt w sb base q c pl L) (hl : L.length ≤ 1000000) (hp1 : 1 ≤ pl) (hp2 : pl ≤ 8) :
    Calls Tryd.prog 15 #[.pointer (some ⟨sb, 0, none⟩)] w fun e w' => e = .returned (.int .i64 (pl - (idsT L 1).length - (idsT L 2).length)) ∧ Below w.heap.size w w' := by
  have HH := Lib.hid h
  obtain ⟨c0, c1, _, _⟩ := h.cells
  have hsl := h.lt
  have l1 := idsT_len L 1
  have l2 := idsT_len L 2
  obtain ⟨n1, hn1⟩ : ∃ n1, n1 = (idsT L 1).length := ⟨_, rfl⟩
  obtain ⟨n2, hn2⟩ : ∃ n2, n2 = (idsT L 2).length := ⟨_, rfl⟩
  rw [← hn1] at l1
  rw [← hn2] at l2
  have HN1 := Lib.hid hn1
  have HN2 := Lib.hid hn2
  clear h hn1 hn2
  go_enter Tryd.func15, Tryd.ntmps15
  go_wp2_with fail
  refine Rc.region (w.heap.size) 12 [Rc.F 5 (fun p => .slice p.q n1 p.c) (fun _ _ _ => True), Rc.F 9 (fun p => .slice p.q n2 p.c) (fun _ _ _ => True)] [] (by kernel_rfl) (Nat.le_refl _) (by kernel_rfl) ?_; intro p; simp only [List.take, List.drop]
  iterate 5 (refine Rc.rK rfl rfl ?_; intro K hK; apply Exists.intro; refine ⟨?_, ?_⟩; (focus (intro x hx; have e1 := Rc.cell_le hx hsl c0; go_simp; (first | (fail) | ((try go_bits); (try go_simp); (try rfl))))); go_simp; refine hK _ ?_; clear hK K)
  refine Rc.fK rfl rfl rfl rfl ?_ ?_
  · intro x Fs hx hle hg K hK
    have hh := HH.out.below (Rc.undrew hx)
    go_wp2_with fail
    refine (idsT_any sb base q c pl L 1 x hh hl).mono ?_
    rintro e x' ⟨qo, co, rfl, _, hb⟩
    rw [← HN1.out]
    go_wp2_with fail
    exact hK ⟨qo, co, undef⟩ x' hb (fun _ _ _ _ => trivial)
  intro K hK; go_simp; refine hK _ ?_; clear hK K
  iterate 3 (refine Rc.rK rfl rfl ?_; intro K hK; apply Exists.intro; refine ⟨?_, ?_⟩; (focus (intro x hx;  go_simp; (first | (fail) | ((try go_bits); (try go_simp); (try rfl))))); go_simp; refine hK _ ?_; clear hK K)
  refine Rc.fK rfl rfl rfl rfl ?_ ?_
  · intro x Fs hx hle hg K hK
    have hh := HH.out.below (Rc.undrew hx)
    go_wp2_with fail
    refine (idsT_any sb base q c pl L 2 x hh hl).mono ?_
    rintro e x' ⟨qo, co, rfl, _, hb⟩
    rw [← HN2.out]
    go_wp2_with fail
    exact hK ⟨qo, co, undef⟩ x' hb (fun _ _ _ _ => trivial)
  intro K hK; go_simp; refine hK _ ?_; clear hK K
  iterate 2 (refine Rc.rK rfl rfl ?_; intro K hK; apply Exists.intro; refine ⟨?_, ?_⟩; (focus (intro x hx;  go_simp; (first | (fail) | ((try go_bits); (try go_simp); (try rfl))))); go_simp; refine hK _ ?_; clear hK K)
  refine Rc.done fun wz Fs hx hle hg => ?_
  have HBZ := Lib.hid (Rc.undrew hx)
  clear hx hle hg
  go_wp2_with fail
  refine NoPanic.normal ?_
  go_wp2_with fail
  go_ret
  exact ⟨by rw [← HN1.out, ← HN2.out]; rfl, HBZ.out⟩
/-- Which places are taken. -/
def usedT (L : List Ten) (n : Nat) : List Bool := (List.range n).map fun (p : Nat) => L.any fun x => decide (¬ x.state = 3 ∧ x.place = (p : Int))
/-- The first that is not. -/
def firstFree (U : List Bool) : Int := match U.findIdx? (fun u => !u) with
  | some k => (k : Int)
  | none => -1
theorem firstFree_some {U : List Bool} {k : Nat} (h : U[k]? = some false) (hk : ∀ j, j < k → U[j]? = some true) : firstFree U = k := by
  unfold firstFree
  have : U.findIdx? (fun u => !u) = some k := by
    rw [List.findIdx?_eq_some_iff_getElem]
    obtain ⟨hlk, hge⟩ := List.getElem?_eq_some_iff.1 h
    refine ⟨hlk, by rw [hge]; rfl, fun j hj => ?_⟩
    obtain ⟨hlj, hgj⟩ := List.getElem?_eq_some_iff.1 (hk j hj)
    rw [hgj]
    decide
  rw [this]
theorem firstFree_none {U : List Bool} (hk : ∀ j, j < U.length → U[j]? = some true) : firstFree U = -1 := by
  unfold firstFree
  have : U.findIdx? (fun u => !u) = none := by
    rw [List.findIdx?_eq_none_iff]
    intro x hx
    obtain ⟨j, hj⟩ := List.mem_iff_getElem?.1 hx
    have hjl := (List.getElem?_eq_some_iff.1 hj).1
    rw [hk j hjl] at hj
    cases hj
    rfl
  rw [this]
theorem usedT_at (L : List Ten) (n p : Nat) (hp : p < n) : (usedT L n)[p]? = some (L.any fun x => decide (¬ x.state = 3 ∧ x.place = (p : Int))) := by
  unfold usedT
  rw [List.getElem?_map, List.getElem?_range hp]
  rfl
theorem usedT_length (L : List Ten) (n : Nat) : (usedT L n).length = n := by simp [usedT]
theorem usedT_succ {L : List Ten} {k : Nat} {x : Ten} (hx : L[k]? = some x) (n : Nat) : (x.state = 3 → usedT (L.take (k + 1)) n = usedT (L.take k) n) ∧ (¬ x.state = 3 → ∀ p : Nat, p < n → x.place = (p : Int) → usedT (L.take (k + 1)) n = (usedT (L.take k) n).set p true) := by
  have ht : L.take (k + 1) = L.take k ++ [x] := by rw [List.take_add_one, hx]; rfl
  refine ⟨fun h3 => ?_, fun h3 p hp hxp => ?_⟩
  · unfold usedT
    rw [ht]
    apply List.map_congr_left
    intro a _
    rw [List.any_append]
    simp [h3]
  · apply List.ext_getElem?
    intro i
    rw [List.getElem?_set]
    by_cases hi : i < n
    · rw [usedT_at _ n i hi, ht, List.any_append]
      by_cases hpi : p = i
      · subst hpi
        rw [if_pos rfl, if_pos (by rw [usedT_length]; exact hp)]
        simp [h3, hxp]
      · rw [if_neg hpi, usedT_at _ n i hi]
        congr 1
        have : ¬ x.place = (i : Int) := by omega
        simp [this]
    · rw [List.getElem?_eq_none (by rw [usedT_length]; omega), if_neg (by omega), List.getElem?_eq_none (by rw [usedT_length]; omega)]
def boolsC (U : List Bool) : List Value := U.map .bool
set_option maxRecDepth 100000 in
set_option maxHeartbeats 2000000 in
theorem index_any (b n c : Nat) (U : List Bool) (w : World) (hU : Rd w 1 (.slice (some ⟨b, 0, none⟩) n c) n (boolsC U)) (hn : U.length = n) (hl : n ≤ 1000) :
    Calls Tryd.prog 64 #[.slice (some ⟨b, 0, none⟩) n c, .bool false] w fun e w' => e = .returned (.int .i64 (firstFree U)) ∧ w' = w := by
  have HU := Lib.hid hU
  have HN := Lib.hid hn
  clear hU hn
  go_enter Tryd.func64, Tryd.ntmps64
  go_wp2_with fail
  go_loopw [8] (fun iv wr => ∃ k : Nat, k ≤ n ∧ iv = .int .i64 k ∧ wr = w ∧ Hid (∀ j, j < k → U[j]? = some true)) (fun iv _ => n - (intOf iv).toNat)
  case atStart => exact ⟨0, Nat.zero_le _, rfl, rfl, Lib.hid (fun j h => by omega)⟩
  case round =>
    obtain ⟨k, hk, rfl, rfl, HK⟩ := hrel
    by_cases hlt : k < n
    · have hltI : (k : Int) < (n : Int) := by omega
      obtain ⟨u, hu⟩ : ∃ u, U[k]? = some u := ⟨_, List.getElem?_eq_getElem (by rw [HN.out]; exact hlt)⟩
      obtain ⟨b', o', he, hb, _, _, hc⟩ := Rd_lt HU.out (by omega)
      cases he
      have hck := hc k (.bool u) (by unfold boolsC; rw [List.getElem?_map, hu]; rfl)
      rw [Nat.zero_add] at hck
      have HUK := Lib.hid hu
      clear hc hu
      cases u with
      | false =>
        have HV := Lib.hid (firstFree_some HUK.out HK.out)
        go_wp2_with fail
        go_ret
        exact ⟨by rw [HV.out]; rfl, rfl⟩
      | true =>
        go_wp2_with fail
        refine ⟨⟨k + 1, by omega, by go_num, trivial, Lib.hid (fun j hj => ?_)⟩, by simp [intOf]; omega⟩
        by_cases hjk : j = k
        · subst hjk; exact HUK.out
        · exact HK.out j (by omega)
    · have hltI : ¬ (k : Int) < (n : Int) := by omega
      have HV : Hid (firstFree U = -1) := Lib.hid (firstFree_none (fun j hj => HK.out j (by have := HN.out; omega)))
      go_wp2_with fail
      go_ret
      exact ⟨by rw [HV.out]; rfl, rfl⟩
theorem infoBool : (Tryd.prog.info? 4).map (fun i => (i.zero, i.size, i.bytes)) = some (some (.bool false), 1, 1) := by kernel_rfl
set_option maxRecDepth 100000 in
set_option maxHeartbeats 2000000 in
theorem freeT_walk (sb base : Nat) (q : Option Addr) (c n : Nat) (L : List Ten) (w : World) (h : TabAt w sb base q c n L) (hl : L.length ≤ 1000000) (hp1 : 1 ≤ n) (hp2 : n ≤ 8) (hpl : ∀ x ∈ L, ¬ x.state = 3 → 0 ≤ x.place ∧ x.place < n) :
    Calls Tryd.prog 55 #[.pointer (some ⟨sb, 0, none⟩)] w fun e w' => e = .returned (.int .i64 (firstFree (usedT L n))) ∧ Below w.heap.size w w' := by
  have HH := Lib.hid h
  have HP := Lib.hid hpl
  obtain ⟨c0, c1, _, _⟩ := h.cells
  have hsl := h.lt
  clear h hpl
  go_enter Tryd.func55, Tryd.ntmps55
  go_wp2_with fail
  obtain ⟨i0, hi0, hz0, hz1, hz2⟩ := parts3M infoBool
  obtain ⟨wm, hrm, hown, hgr⟩ := run_makeSlice_full (P := Tryd.prog) w w.heap.size 145 4 i0 (.bool false) 1 Tryd.underlying145 hi0 hz0 hz1 .i64 .i64 n (by omega) (by rw [hz2]; omega) (by unfold maxLen; omega) (Nat.le_refl _)
  rw [hrm]
  have hbm : Below w.heap.size w wm := (Kp.of_grown hgr).below (Nat.le_refl _) (fun k hk => by cases hk)
  have hu0 : (madeCells (Value.bool false).cells (n * 1)).toList = boolsC (usedT (L.take 0) n) := by
    apply List.ext_getElem?
    intro i
    by_cases hi : i < n
    · unfold boolsC
      rw [List.getElem?_map, usedT_at _ n i hi]
      simp [madeCells, Value.cells, hi, Nat.mod_one]
    · rw [List.getElem?_eq_none (by rw [Array.length_toList, size_madeCells]; omega), List.getElem?_eq_none (by simp [boolsC, usedT]; omega)]
  rw [hu0] at hown
  obtain ⟨s, hs⟩ : ∃ s, s = w.heap.size := ⟨_, rfl⟩
  have HO0 := Lib.hid (Ow.of_own hown)
  have HB0 := Lib.hid hbm
  have HM := Lib.hid (HH.out.below hbm)
  obtain ⟨c0, c1, _, _⟩ := HM.out.cells
  rw [← hs] at HO0
  rw [← hs]
  have HS := Lib.hid hs
  clear hrm hown hgr hbm hu0 hs
  go_wp2_with fail
  go_loopw [16] (fun iv wr => ∃ k : Nat, k ≤ L.length ∧ iv = .int .i64 k ∧ Hid (Ow wr s 4 1 (.slice (some ⟨s, 0, none⟩) n n) n (boolsC (usedT (L.take k) n))) ∧ Hid (Below w.heap.size w wr)) (fun iv _ => L.length - (intOf iv).toNat)
  case atStart => exact ⟨0, Nat.zero_le _, rfl, HO0, HB0⟩
  case round =>
    obtain ⟨k, hk, rfl, HO, HB⟩ := hrel
    by_cases hlt : k < L.length
    · have hltI : (k : Int) < (L.length : Int) := by omega
      obtain ⟨x, hx⟩ : ∃ x, L[k]? = some x := ⟨_, List.getElem?_eq_getElem hlt⟩
      obtain ⟨g, rfl⟩ := HH.out.2.2.some_of_lt (by omega)
      have HSX := Lib.hid (HH.out.below HB.out)
      have hld := ten_load (Rd.of_ow HSX.out.2.2) hx
      rw [Nat.zero_add] at hld
      have HLD := Lib.hid hld
      have HT := Lib.hid (usedT_succ hx n)
      have HXP := Lib.hid (HP.out x (List.mem_of_getElem? hx))
      obtain ⟨xi, xs, xp, xd⟩ := x
      clear hx hld
      unfold tenA at HLD
      obtain ⟨wl, hwl⟩ : ∃ wl, wl = wr.alloc (.cells #[.string ⟨xi.toArray⟩, .int .i64 xs, .int .i64 xp, .pointer xd] 111) := ⟨_, rfl⟩
      have hbl : Below wr.heap.size wr wl := by rw [hwl]; exact (Below.refl wr.heap.size wr).alloc (Nat.le_refl _) _
      have HOL := Lib.hid (HO.out.below hbl)
      have HBL := Lib.hid (HB.out.trans (hbl.mono HB.out.size))
      have HWL := Lib.hid hwl
      clear hbl hwl
      by_cases h3 : xs = 3
      · have HE : Hid (usedT (L.take (k + 1)) n = usedT (L.take k) n) := Lib.hid (HT.out.1 h3)
        subst h3
        go_wp2_with (refine l_load rfl _ _ rfl _ HLD.out ?_)
        rw [← HWL.out]
        exact ⟨⟨k + 1, by omega, by go_num, by rw [HE.out]; exact HOL, HBL⟩, by simp [intOf]; omega⟩
      · obtain ⟨hx0, hx1⟩ := HXP.out h3
        obtain ⟨p, rfl⟩ : ∃ p : Nat, xp = (p : Int) := ⟨xp.toNat, by show xp = _; have : 0 ≤ xp := hx0; omega⟩
        have hpn : (p : Int) < (n : Int) := hx1
        have hpn' : p < n := by omega
        have HE : Hid (usedT (L.take (k + 1)) n = (usedT (L.take k) n).set p true) := Lib.hid (HT.out.2 h3 p hpn' rfl)
        have h3B : (xs == 3) = false := by rw [beq_eq_false_iff_ne]; exact h3
        have hcf := HOL.out.cells p (by omega)
        obtain ⟨u, hu⟩ := Option.isSome_iff_exists.1 hcf.1
        have hff := hcf.2
        have ho := HOL.out.set (.bool true) (j := p) (by omega)
        have hbe : (boolsC (usedT (L.take k) n)).set p (.bool true) = boolsC (usedT (L.take (k + 1)) n) := by rw [HE.out]; unfold boolsC; rw [List.map_set]
        rw [hbe] at ho
        obtain ⟨w3, hw3⟩ : ∃ w3, w3 = wl.setCell ⟨s, p, none⟩ (.bool true) := ⟨_, rfl⟩
        have hg3 : wl.grownBy w3 (some s) := by rw [hw3]; exact grown_setCell _ _ _ _
        rw [← hw3] at ho
        have HO3 := Lib.hid ho
        have HB3 : Hid (Below w.heap.size w w3) := Lib.hid (HBL.out.grown hg3 HBL.out.size (fun k hk => by cases hk; rw [HS.out]; exact Nat.le_refl _))
        have HW3 := Lib.hid hw3
        rw [HWL.out] at hu hff
        clear hcf ho hbe hg3 hw3 h3 hx0 hx1
        go_wp2_with (first | (refine l_load rfl _ _ rfl _ HLD.out ?_))
        rw [← HWL.out, ← HW3.out]
        exact ⟨⟨k + 1, by omega, by go_num, HO3, HB3⟩, by simp [intOf]; omega⟩
    · have hltI : ¬ (k : Int) < (L.length : Int) := by omega
      obtain rfl : k = L.length := by omega
      have ho := HO.out
      rw [List.take_length] at ho
      have HX := Lib.hid (index_any s n n (usedT L n) wr (Rd.of_ow ho) (usedT_length _ _) (by omega))
      obtain ⟨r, hr⟩ : ∃ r, r = firstFree (usedT L n) := ⟨_, rfl⟩
      have HR := Lib.hid hr
      clear ho hr
      go_wp2_with fail
      refine HX.out.mono ?_
      rintro e w5 ⟨rfl, hw⟩
      rw [← HR.out]
      obtain rfl : wr = w5 := hw.symm
      clear hw
      go_wp2_with fail
      go_ret
      exact ⟨by rw [← HR.out]; rfl, HB.out⟩
end Ten
end Go.Proofs.YtmkoiddfkanmiaaDoor

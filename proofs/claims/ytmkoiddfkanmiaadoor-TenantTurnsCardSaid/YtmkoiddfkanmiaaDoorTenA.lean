/- The walks of the tenants' comparison, New and find. -/
import Derived.Test.YtmkoiddfkanmiaaDoorCadQ
import Derived.Test.YtmkoiddfkanmiaaDoorSlI
namespace Go.Proofs.YtmkoiddfkanmiaaDoor
open Go.RowKit Bits Mem Sha Cad
namespace Ten
/-- One of a table of tenants. -/
structure Ten where
  id : List UInt8
  state : Int
  place : Int
  dir : Option Addr
/-- What the document knows of one: the id, the state (as a period), the place (as an age). -/
def core (x : Ten) : One := ⟨x.id, x.state, x.place⟩
def tenA (x : Ten) : Array Value := #[.string ⟨x.id.toArray⟩, .int .i64 x.state, .int .i64 x.place, .pointer x.dir]
def tens (L : List Ten) : List Value := L.flatMap fun x => [.string ⟨x.id.toArray⟩, .int .i64 x.state, .int .i64 x.place, .pointer x.dir]
set_option maxRecDepth 100000 in
set_option maxHeartbeats 1000000 in
theorem cmpT_any (x : Ten) (b : List UInt8) (w : World) :
    Calls Tryd.prog 58 #[.agg (tenA x), .string ⟨b.toArray⟩] w fun e w' => e = .returned (.int .i64 (cmpB x.id b)) ∧ Below w.heap.size w w' := by
  obtain ⟨i, p, a, d⟩ := x
  unfold tenA
  go_enter Tryd.func58, Tryd.ntmps58
  go_wp2_with fail
  refine (compare_any i b _).mono ?_
  rintro e w2 ⟨rfl, hw⟩
  subst hw
  go_wp2_with fail
  go_ret
  exact ⟨rfl, (Below.refl _ _).alloc (Nat.le_refl _) _⟩
set_option maxRecDepth 100000 in
set_option maxHeartbeats 1000000 in
theorem newTab_any (n : Int) (h1 : 1 ≤ n) (h2 : n ≤ 8) (w : World) : Calls Tryd.prog 12 #[.int .i64 n] w fun e w' => e = .returned (.tuple #[.pointer (some ⟨w.heap.size, 0, none⟩), .int .i64 0]) ∧ w' = w.alloc (.cells #[.int .i64 n, .slice none 0 0] 106) := by
  have n1 : (n < 1) = False := by simp; omega
  have n2 : (8 < n) = False := by simp; omega
  go_enter Tryd.func12, Tryd.ntmps12
  go_wp2_with fail
  go_ret2
  exact ⟨rfl, rfl⟩
set_option maxRecDepth 100000 in
set_option maxHeartbeats 1000000 in
theorem newTab_bad (n : Int) (h : n < 1 ∨ 8 < n) (w : World) : Calls Tryd.prog 12 #[.int .i64 n] w fun e w' => e = .returned (.tuple #[.pointer none, .int .i64 1]) ∧ w' = w := by
  by_cases h1 : n < 1
  · clear h
    go_enter Tryd.func12, Tryd.ntmps12
    go_wp2_with fail
    go_ret2
    exact ⟨rfl, rfl⟩
  · have h2 : 8 < n := by omega
    have n1 : (n < 1) = False := by simp; omega
    clear h h1
    go_enter Tryd.func12, Tryd.ntmps12
    go_wp2_with fail
    go_ret2
    exact ⟨rfl, rfl⟩
/-- A table in memory. -/
def TabAt (w : World) (sb base : Nat) (q : Option Addr) (c : Nat) (pl : Int) (L : List Ten) : Prop :=
  w.heap[sb]? = some (.cells #[.int .i64 pl, .slice q L.length c] 106 (0, 0)) ∧ sb < base ∧ Ow w base 111 4 (.slice q L.length c) L.length (tens L)
theorem TabAt.cells {w : World} {sb base : Nat} {q : Option Addr} {c : Nat} {now : Int} {L : List Ten} (h : TabAt w sb base q c now L) : w.cell? ⟨sb, 0, none⟩ = some (.int .i64 now) ∧ w.cell? ⟨sb, 1, none⟩ = some (.slice q L.length c) ∧ w.frozen? ⟨sb, 0, none⟩ = false ∧ w.frozen? ⟨sb, 1, none⟩ = false :=
  ⟨(cell_of_row _ _ _ _ _ _ h.1).trans rfl, (cell_of_row _ _ _ _ _ _ h.1).trans rfl, by simp [World.frozen?, h.1], by simp [World.frozen?, h.1]⟩
theorem TabAt.below {w w' : World} {sb base : Nat} {q : Option Addr} {c : Nat} {now : Int} {L : List Ten} (h : TabAt w sb base q c now L) (hb : Below w.heap.size w w') : TabAt w' sb base q c now L :=
  ⟨(hb.block sb (Array.getElem?_eq_some_iff.1 h.1).1).trans h.1, h.2.1, h.2.2.below hb⟩
theorem TabAt.lt {w : World} {sb base : Nat} {q : Option Addr} {c : Nat} {now : Int} {L : List Ten} (h : TabAt w sb base q c now L) : sb < w.heap.size := (Array.getElem?_eq_some_iff.1 h.1).1
theorem tens_length (L : List Ten) : (tens L).length = L.length * 4 := by
  unfold tens
  induction L with
  | nil => rfl
  | cons x L ih => simp [List.flatMap_cons, ih]; omega
theorem tens_get : ∀ (L : List Ten) (k : Nat) (x : Ten), L[k]? = some x → ∀ j, j < 4 → (tens L)[k * 4 + j]? = (tenA x).toList[j]?
  | [], _, _, h, _, _ => by simp at h
  | y :: L, 0, x, h, j, hj => by
    cases h
    unfold tens tenA
    rw [List.flatMap_cons, List.getElem?_append_left (by simp; omega)]
    simp
  | y :: L, k + 1, x, h, j, hj => by
    have := tens_get L k x (by simpa using h) j hj
    rw [← this]
    unfold tens
    rw [List.flatMap_cons, List.getElem?_append_right (by simp; omega)]
    congr 1
    simp
    omega
theorem infoTenS (x : Ten) : (Tryd.prog.info? 111).map (·.size) = some (tenA x).toList.length := by
  show _ = some 4
  kernel_rfl
/-- One of a table's row, loaded. -/
theorem ten_load {w : World} {b off c : Nat} {L : List Ten} {k : Nat} {x : Ten} (h : Rd w 4 (.slice (some ⟨b, off, none⟩) L.length c) L.length (tens L)) (hx : L[k]? = some x) :
    (Instr.loadAt 111 (.pointer (some ⟨b, off + k * 4, none⟩))).run Tryd.prog w = .ok (.agg (tenA x)) w := by
  obtain ⟨b', off', he, _, _, _, hc⟩ := Rd_lt h (by have := (List.getElem?_eq_some_iff.1 hx).1; omega)
  cases he
  have := run_loadAt_mid (P := Tryd.prog) w b (off + k * 4) 111 (tenA x).toList _ (fun j u hu => by
    have hj := (List.getElem?_eq_some_iff.1 hu).1
    have hj4 : j < 4 := hj
    rw [Nat.add_assoc]
    exact hc _ u (by rw [tens_get L k x hx j hj4]; exact hu)) Tryd.underlying111 rfl (infoTenS x)
  simpa using this
set_option maxRecDepth 100000 in
set_option maxHeartbeats 2000000 in
theorem bsearchT_any (q : Option Addr) (c : Nat) (L : List Ten) (id : List UInt8) (w : World) (hL : Rd w 4 (.slice q L.length c) L.length (tens L)) (hl : L.length ≤ 1000000)
    (hm : ∀ (i j : Nat) (x y : One), i ≤ j → (L.map core)[i]? = some x → (L.map core)[j]? = some y → cmpB y.id id < 0 → cmpB x.id id < 0) :
    Calls Tryd.prog 57 #[.slice q L.length c, .string ⟨id.toArray⟩, .func (.func 58) #[] #[]] w fun e w' => ∃ n, Stands (L.map core) id n ∧ e = .returned (.tuple #[.int .i64 n, .bool (foundAt (L.map core) id n)]) ∧ Below w.heap.size w w' := by
  have HL := Lib.hid hL
  have HM := Lib.hid hm
  clear hL hm
  go_enter Tryd.func57, Tryd.ntmps57
  go_wp2_with fail
  go_loopw [9, 10] (fun a b wr => ∃ i j : Nat, a = .int .i64 i ∧ b = .int .i64 j ∧ i ≤ j ∧ j ≤ L.length ∧ Hid (∀ k x, k < i → (L.map core)[k]? = some x → cmpB x.id id < 0) ∧ Hid (∀ k x, j ≤ k → (L.map core)[k]? = some x → 0 ≤ cmpB x.id id) ∧ Hid (Below w.heap.size w wr)) (fun a b _ => (intOf b).toNat - (intOf a).toNat)
  case atStart => exact ⟨0, L.length, rfl, rfl, Nat.zero_le _, Nat.le_refl _, Lib.hid (fun k x h => by omega), Lib.hid (fun k x h hx => by have := (List.getElem?_eq_some_iff.1 hx).1; rw [List.length_map] at this; omega), Lib.hid (Below.refl _ _)⟩
  case round =>
    obtain ⟨i, j, rfl, rfl, hij, hj, HI, HJ, HB⟩ := hrel
    by_cases hlt : i < j
    · have hltI : (i : Int) < (j : Int) := by omega
      obtain ⟨h, hh⟩ : ∃ h : Nat, ((i : Int) + (j : Int)) / 2 = (h : Int) := ⟨(i + j) / 2, by omega⟩
      have hih : i ≤ h := by omega
      have hhj : h < j := by omega
      have hhl : h < L.length := by omega
      have hhI : (h : Int) < (L.length : Int) := by omega
      obtain ⟨x, hx⟩ : ∃ x, L[h]? = some x := ⟨_, List.getElem?_eq_getElem hhl⟩
      obtain ⟨b, o, hqe, hb, _, _, _⟩ := Rd_lt HL.out (by omega)
      subst hqe
      have HLD := Lib.hid (ten_load (HL.out.below HB.out) hx)
      have hc := cmpT_any x id wr
      obtain ⟨z, hz⟩ : ∃ z, z = cmpB x.id id := ⟨_, rfl⟩
      rw [← hz] at hc
      have HC := Lib.hid hc
      have HZ := Lib.hid hz
      have HX : Hid ((L.map core)[h]? = some (core x)) := Lib.hid (by rw [List.getElem?_map, hx]; rfl)
      clear hc hz hx
      by_cases hz0 : z < 0
      · go_wp2_with (refine l_load rfl _ _ rfl _ HLD.out ?_)
        refine HC.out.mono ?_
        rintro e w2 ⟨rfl, hb2⟩
        have HB2 : Hid (Below w.heap.size w w2) := Lib.hid (HB.out.trans (hb2.mono HB.out.size))
        clear hb2
        go_wp2_with fail
        refine ⟨⟨h + 1, j, by go_num, rfl, by omega, hj, Lib.hid (fun k y hk hy => ?_), HJ, HB2⟩, by simp [intOf]; omega⟩
        exact HM.out k h y (core x) (by omega) hy HX.out (by show cmpB x.id id < 0; rw [← HZ.out]; exact hz0)
      · have HZN := Lib.hid (Int.not_lt.1 hz0)
        go_wp2_with (refine l_load rfl _ _ rfl _ HLD.out ?_)
        refine HC.out.mono ?_
        rintro e w2 ⟨rfl, hb2⟩
        have HB2 : Hid (Below w.heap.size w w2) := Lib.hid (HB.out.trans (hb2.mono HB.out.size))
        clear hb2
        go_wp2_with fail
        refine ⟨⟨i, h, rfl, by go_num, by omega, by omega, HI, Lib.hid (fun k y hk hy => Int.not_lt.1 fun hlt0 => ?_), HB2⟩, by simp [intOf]; omega⟩
        exact Int.not_lt.2 HZN.out (by rw [HZ.out]; show cmpB (core x).id id < 0; exact HM.out h k (core x) y hk HX.out hy hlt0)
    · obtain rfl : i = j := by omega
      have HST : Hid (Stands (L.map core) id i) := Lib.hid ⟨by rw [List.length_map]; exact hj, HI.out, HJ.out⟩
      have hge : ¬ (i : Int) < (i : Int) := by omega
      by_cases hil : i < L.length
      · have hilI : (i : Int) < (L.length : Int) := by omega
        obtain ⟨x, hx⟩ : ∃ x, L[i]? = some x := ⟨_, List.getElem?_eq_getElem hil⟩
        obtain ⟨b, o, hqe, hb, _, _, _⟩ := Rd_lt HL.out (by omega)
        subst hqe
        have HLD := Lib.hid (ten_load (HL.out.below HB.out) hx)
        have hc := cmpT_any x id wr
        obtain ⟨z, hz⟩ : ∃ z, z = cmpB x.id id := ⟨_, rfl⟩
        rw [← hz] at hc
        have HC := Lib.hid hc
        have HF : Hid (foundAt (L.map core) id i = decide (z = 0)) := Lib.hid (by unfold foundAt; rw [List.getElem?_map, hx, hz]; rfl)
        clear hc hz hx
        go_wp2_with (refine unguard16 (by rfl) ?_; refine l_load rfl _ _ rfl _ HLD.out ?_)
        refine HC.out.mono ?_
        rintro e w2 ⟨rfl, hb2⟩
        have HB2 : Hid (Below w.heap.size w w2) := Lib.hid (HB.out.trans (hb2.mono HB.out.size))
        clear hb2
        by_cases hz0 : z = 0
        · have HF2 : Hid (foundAt (L.map core) id i = true) := Lib.hid (by rw [HF.out, decide_eq_true hz0])
          have hzI : (z == 0) = true := by rw [beq_iff_eq]; exact hz0
          clear hz0
          go_wp2_with fail
          go_ret2
          exact ⟨i, HST.out, by rw [HF2.out]; rfl, HB2.out⟩
        · have HF2 : Hid (foundAt (L.map core) id i = false) := Lib.hid (by rw [HF.out, decide_eq_false hz0])
          have hzI : (z == 0) = false := by rw [beq_eq_false_iff_ne]; exact hz0
          clear hz0
          go_wp2_with fail
          go_ret2
          exact ⟨i, HST.out, by rw [HF2.out]; rfl, HB2.out⟩
      · have hilI : ¬ (i : Int) < (L.length : Int) := by omega
        have HF : Hid (foundAt (L.map core) id i = false) := Lib.hid (by unfold foundAt; rw [List.getElem?_eq_none (by rw [List.length_map]; omega)])
        go_wp2_with fail
        go_ret2
        exact ⟨i, HST.out, by rw [HF.out]; rfl, HB.out⟩
end Ten
end Go.Proofs.YtmkoiddfkanmiaaDoor

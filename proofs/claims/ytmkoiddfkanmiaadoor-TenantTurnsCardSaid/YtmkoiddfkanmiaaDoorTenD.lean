/- The walks of a table's Hold, Free, Delete, Ids; none's answers. -/
import Derived.Test.YtmkoiddfkanmiaaDoorTenC
namespace Go.Proofs.YtmkoiddfkanmiaaDoor
open Go.RowKit Bits Mem Sha Cad
namespace Ten
set_option maxRecDepth 100000 in
set_option maxHeartbeats 1000000 in
theorem holdT_any (sb base : Nat) (q : Option Addr) (c : Nat) (pl : Int) (L : List Ten) (qi : Option Addr) (ci : Nat) (id : List UInt8) (w : World) (h : TabAt w sb base q c pl L) (hl : L.length ≤ 1000000) (hm : Srt (L.map core)) (hi : Rd w 1 (.slice qi id.length ci) id.length (bys id)) :
    Calls Tryd.prog 19 #[.pointer (some ⟨sb, 0, none⟩), .slice qi id.length ci] w fun e w' => e = .returned (.int .i64 (turnT L id 2).1) ∧ TabAt w' sb base q c pl (turnT L id 2).2 ∧ Kp (fun k => k = sb ∨ (Value.slice q L.length c).ownBlock = some k) w w' := by
  have HT := Lib.hid (turnT_any sb base q c pl L qi ci id 2 w h hl hm hi)
  obtain ⟨r, hr⟩ : ∃ r, r = (turnT L id 2).1 := ⟨_, rfl⟩
  have HR := Lib.hid hr
  clear h hm hi hr
  go_enter Tryd.func19, Tryd.ntmps19
  go_wp2_with fail
  refine HT.out.mono ?_
  rintro e w2 ⟨rfl, hs, hk⟩
  rw [← HR.out]
  have HS := Lib.hid hs
  have HK := Lib.hid hk
  clear hs hk
  go_wp2_with fail
  go_ret
  exact ⟨by rw [← HR.out]; rfl, HS.out, HK.out⟩
set_option maxRecDepth 100000 in
set_option maxHeartbeats 1000000 in
theorem freeT_any (sb base : Nat) (q : Option Addr) (c : Nat) (pl : Int) (L : List Ten) (qi : Option Addr) (ci : Nat) (id : List UInt8) (w : World) (h : TabAt w sb base q c pl L) (hl : L.length ≤ 1000000) (hm : Srt (L.map core)) (hi : Rd w 1 (.slice qi id.length ci) id.length (bys id)) :
    Calls Tryd.prog 21 #[.pointer (some ⟨sb, 0, none⟩), .slice qi id.length ci] w fun e w' => e = .returned (.int .i64 (turnT L id 1).1) ∧ TabAt w' sb base q c pl (turnT L id 1).2 ∧ Kp (fun k => k = sb ∨ (Value.slice q L.length c).ownBlock = some k) w w' := by
  have HT := Lib.hid (turnT_any sb base q c pl L qi ci id 1 w h hl hm hi)
  obtain ⟨r, hr⟩ : ∃ r, r = (turnT L id 1).1 := ⟨_, rfl⟩
  have HR := Lib.hid hr
  clear h hm hi hr
  go_enter Tryd.func21, Tryd.ntmps21
  go_wp2_with fail
  refine HT.out.mono ?_
  rintro e w2 ⟨rfl, hs, hk⟩
  rw [← HR.out]
  have HS := Lib.hid hs
  have HK := Lib.hid hk
  clear hs hk
  go_wp2_with fail
  go_ret
  exact ⟨by rw [← HR.out]; rfl, HS.out, HK.out⟩
set_option maxRecDepth 100000 in
set_option maxHeartbeats 1000000 in
theorem delT_any (sb base : Nat) (q : Option Addr) (c : Nat) (pl : Int) (L : List Ten) (qi : Option Addr) (ci : Nat) (id : List UInt8) (w : World) (h : TabAt w sb base q c pl L) (hl : L.length ≤ 1000000) (hm : Srt (L.map core)) (hi : Rd w 1 (.slice qi id.length ci) id.length (bys id)) :
    Calls Tryd.prog 24 #[.pointer (some ⟨sb, 0, none⟩), .slice qi id.length ci] w fun e w' => e = .returned (.tuple #[.int .i64 (delT L id).1.1, .int .i64 (delT L id).1.2]) ∧ TabAt w' sb base q c pl (delT L id).2 ∧ Kp (fun k => k = sb ∨ (Value.slice q L.length c).ownBlock = some k) w w' := by
  have HG := Lib.hid (getT_any sb base q c pl L qi ci id w h hl hm hi)
  have HH := Lib.hid h
  clear h hm hi
  go_enter Tryd.func24, Tryd.ntmps24
  go_wp2_with fail
  refine HG.out.mono ?_
  rintro e w2 ⟨hor, hb⟩
  have H2 := Lib.hid (HH.out.below hb)
  have HB2 := Lib.hid hb
  obtain ⟨c0, c1, f0, f1⟩ := H2.out.cells
  clear hb
  rcases hor with ⟨_, g, x, rfl, hx, hhas, h3, rfl⟩ | ⟨hm, rfl⟩
  · obtain ⟨n, hn⟩ : ∃ n, n = place (L.map core) id := ⟨_, rfl⟩
    have HV : Hid (delT L id = ((x.place, 0), L.set n { x with state := 3, dir := none })) := Lib.hid (by unfold delT; rw [theT_some hhas hx]; show (if x.state = 3 then _ else _) = _; rw [if_neg h3, hn])
    rw [← hn] at hx ⊢
    have hnl := (List.getElem?_eq_some_iff.1 hx).1
    obtain ⟨r0, r1, r2, r3, fr1, fr3⟩ := tab_cells H2.out.2.2 rfl hx
    have ho1 := H2.out.2.2.set (.int .i64 3) (j := n * 4 + 1) (by omega)
    rw [tens_set L n x { x with state := 3 } hx 1 (by decide) (.int .i64 3) rfl] at ho1
    obtain ⟨w3, hw3⟩ : ∃ w3, w3 = w2.setCell ⟨g, n * 4 + 1, none⟩ (.int .i64 3) := ⟨_, rfl⟩
    have hg3 : w2.grownBy w3 (some g) := by rw [hw3]; exact grown_setCell _ _ _ _
    rw [← hw3] at ho1
    have hx1 : (L.set n { x with state := 3 })[n]? = some { x with state := 3 } := List.getElem?_set_self hnl
    have hln : (L.set n { x with state := 3 }).length = L.length := List.length_set
    obtain ⟨s0, s1, s2, s3, fs1, fs3⟩ := tab_cells (x := { x with state := 3 }) ho1 hln hx1
    have ho2 := ho1.set (.pointer none) (j := n * 4 + 3) (by omega)
    rw [tens_set (L.set n { x with state := 3 }) n { x with state := 3 } { x with state := 3, dir := none } hx1 3 (by decide) (.pointer none) rfl, List.set_set] at ho2
    obtain ⟨w4, hw4⟩ : ∃ w4, w4 = w3.setCell ⟨g, n * 4 + 3, none⟩ (.pointer none) := ⟨_, rfl⟩
    have hg4 : w3.grownBy w4 (some g) := by rw [hw4]; exact grown_setCell _ _ _ _
    rw [← hw4] at ho2
    have hx2 : (L.set n { x with state := 3, dir := none })[n]? = some { x with state := 3, dir := none } := List.getElem?_set_self hnl
    obtain ⟨t0, t1, t2, t3, _, _⟩ := tab_cells (x := { x with state := 3, dir := none }) ho2 List.length_set hx2
    have t2 : w4.cell? ⟨g, n * 4 + 2, none⟩ = some (.int .i64 x.place) := t2
    have hlt := H2.out.2.2.lt g rfl
    have hgl3 : g < w3.heap.size := Nat.lt_of_lt_of_le hlt.2 hg3.size
    have hne : ¬ sb = g := by have := H2.out.2.1; omega
    have HS4 : Hid (TabAt w4 sb base (some ⟨g, 0, none⟩) c pl (L.set n { x with state := 3, dir := none })) := Lib.hid ⟨by rw [List.length_set]; exact ((Kp.of_grown hg4).block sb (Nat.lt_of_lt_of_le H2.out.lt hg3.size) (fun e => by cases e; exact hne rfl)).trans (((Kp.of_grown hg3).block sb H2.out.lt (fun e => by cases e; exact hne rfl)).trans H2.out.1), H2.out.2.1, by rw [List.length_set]; exact ho2⟩
    have HK4 : Hid (Kp (fun k => k = sb ∨ (Value.slice (some ⟨g, 0, none⟩) L.length c).ownBlock = some k) w w4) := Lib.hid (((Kp.of_below HB2.out).trans ((Kp.of_grown hg3).weak (fun k hk => .inr hk)) (fun _ _ h => h)).trans ((Kp.of_grown hg4).weak (fun k hk => .inr hk)) (fun _ _ h => h))
    have HW3 := Lib.hid hw3
    have HW4 := Lib.hid hw4
    clear hx hhas h3 ho1 ho2 hg3 hg4 hw3 hw4 hx1 hx2 hln s0 s1 s2 t0 t1 t3 hn
    go_wp2_with (first | (rw [← HW3.out]) | (rw [← HW4.out]))
    go_ret2
    exact ⟨by rw [HV.out]; rfl, by rw [HV.out]; exact HS4.out, HK4.out⟩
  · rcases get_cases hm with ⟨ht, he⟩ | ⟨x, ht, h3, he⟩
    · have HV : Hid (delT L id = ((0, 10), L)) := Lib.hid (by unfold delT; rw [ht])
      rw [he]
      clear ht he hm
      go_wp2_with fail
      go_ret2
      exact ⟨by rw [HV.out]; rfl, by rw [HV.out]; exact H2.out, Kp.of_below HB2.out⟩
    · have HV : Hid (delT L id = ((0, 9), L)) := Lib.hid (by unfold delT; rw [ht]; exact if_pos h3)
      rw [he]
      clear ht he hm h3
      go_wp2_with fail
      go_ret2
      exact ⟨by rw [HV.out]; rfl, by rw [HV.out]; exact H2.out, Kp.of_below HB2.out⟩
set_option maxRecDepth 100000 in
set_option maxHeartbeats 1000000 in
theorem noneT (w : World) : Calls Tryd.prog 23 #[] w fun e w' => e = .returned (.pointer none) ∧ w' = w := by
  go_enter Tryd.func23, Tryd.ntmps23
  go_wp2_with fail
  go_ret
  exact ⟨rfl, rfl⟩
set_option maxRecDepth 100000 in
set_option maxHeartbeats 1000000 in
theorem get_noneT (q : Option Addr) (n c : Nat) (w : World) : Calls Tryd.prog 43 #[.pointer none, .slice q n c] w fun e w' => e = .returned (.tuple #[.pointer none, .int .i64 1]) ∧ w' = w := by
  go_enter Tryd.func43, Tryd.ntmps43
  go_wp2_with fail
  go_ret2
  exact ⟨rfl, rfl⟩
set_option maxRecDepth 100000 in
set_option maxHeartbeats 1000000 in
theorem imp_noneT (q d : Option Addr) (n c : Nat) (w : World) : Calls Tryd.prog 13 #[.pointer none, .slice q n c, .pointer d] w fun e w' => e = .returned (.tuple #[.int .i64 0, .int .i64 1]) ∧ w' = w := by
  go_enter Tryd.func13, Tryd.ntmps13
  go_wp2_with fail
  go_ret2
  exact ⟨rfl, rfl⟩
set_option maxRecDepth 100000 in
set_option maxHeartbeats 1000000 in
theorem del_noneT (q : Option Addr) (n c : Nat) (w : World) : Calls Tryd.prog 24 #[.pointer none, .slice q n c] w fun e w' => e = .returned (.tuple #[.int .i64 0, .int .i64 1]) ∧ w' = w := by
  go_enter Tryd.func24, Tryd.ntmps24
  go_wp2_with fail
  refine (get_noneT q n c w).mono ?_
  rintro e w2 ⟨rfl, rfl⟩
  go_wp2_with fail
  go_ret2
  exact ⟨rfl, rfl⟩
set_option maxRecDepth 100000 in
set_option maxHeartbeats 1000000 in
theorem getd_noneT (q : Option Addr) (n c : Nat) (b : Bool) (w : World) : Calls Tryd.prog 18 #[.pointer none, .slice q n c, .bool b] w fun e w' => e = .returned (.tuple #[.pointer none, .int .i64 1]) ∧ w' = w := by
  go_enter Tryd.func18, Tryd.ntmps18
  go_wp2_with fail
  refine (get_noneT q n c w).mono ?_
  rintro e w2 ⟨rfl, rfl⟩
  go_wp2_with fail
  go_ret2
  exact ⟨rfl, rfl⟩
set_option maxRecDepth 100000 in
set_option maxHeartbeats 1000000 in
theorem place_noneT (q : Option Addr) (n c : Nat) (w : World) : Calls Tryd.prog 22 #[.pointer none, .slice q n c] w fun e w' => e = .returned (.tuple #[.int .i64 0, .int .i64 1]) ∧ w' = w := by
  go_enter Tryd.func22, Tryd.ntmps22
  go_wp2_with fail
  refine (get_noneT q n c w).mono ?_
  rintro e w2 ⟨rfl, rfl⟩
  go_wp2_with fail
  go_ret2
  exact ⟨rfl, rfl⟩
set_option maxRecDepth 100000 in
set_option maxHeartbeats 1000000 in
theorem turn_noneT (q : Option Addr) (n c : Nat) (s : Int) (w : World) : Calls Tryd.prog 44 #[.pointer none, .slice q n c, .int .i64 s] w fun e w' => e = .returned (.int .i64 1) ∧ w' = w := by
  go_enter Tryd.func44, Tryd.ntmps44
  go_wp2_with fail
  refine (get_noneT q n c w).mono ?_
  rintro e w2 ⟨rfl, rfl⟩
  go_wp2_with fail
  go_ret
  exact ⟨rfl, rfl⟩
set_option maxRecDepth 100000 in
set_option maxHeartbeats 1000000 in
theorem hold_noneT (q : Option Addr) (n c : Nat) (w : World) : Calls Tryd.prog 19 #[.pointer none, .slice q n c] w fun e w' => e = .returned (.int .i64 1) ∧ w' = w := by
  go_enter Tryd.func19, Tryd.ntmps19
  go_wp2_with fail
  refine (turn_noneT q n c 2 w).mono ?_
  rintro e w2 ⟨rfl, rfl⟩
  go_wp2_with fail
  go_ret
  exact ⟨rfl, rfl⟩
set_option maxRecDepth 100000 in
set_option maxHeartbeats 1000000 in
theorem free_noneT (q : Option Addr) (n c : Nat) (w : World) : Calls Tryd.prog 21 #[.pointer none, .slice q n c] w fun e w' => e = .returned (.int .i64 1) ∧ w' = w := by
  go_enter Tryd.func21, Tryd.ntmps21
  go_wp2_with fail
  refine (turn_noneT q n c 1 w).mono ?_
  rintro e w2 ⟨rfl, rfl⟩
  go_wp2_with fail
  go_ret
  exact ⟨rfl, rfl⟩
set_option maxRecDepth 100000 in
set_option maxHeartbeats 1000000 in
theorem state_noneT (q : Option Addr) (n c : Nat) (w : World) : Calls Tryd.prog 20 #[.pointer none, .slice q n c] w fun e w' => e = .returned (.int .i64 0) ∧ w' = w := by
  go_enter Tryd.func20, Tryd.ntmps20
  go_wp2_with fail
  go_ret
  exact ⟨rfl, rfl⟩
set_option maxRecDepth 100000 in
set_option maxHeartbeats 1000000 in
theorem ids_noneT (s : Int) (w : World) : Calls Tryd.prog 25 #[.pointer none, .int .i64 s] w fun e w' => e = .returned (.slice none 0 0) ∧ w' = w := by
  go_enter Tryd.func25, Tryd.ntmps25
  go_wp2_with fail
  go_ret
  exact ⟨rfl, rfl⟩
set_option maxRecDepth 100000 in
set_option maxHeartbeats 1000000 in
theorem room_noneT (w : World) : Calls Tryd.prog 15 #[.pointer none] w fun e w' => e = .returned (.int .i64 0) ∧ w' = w := by
  go_enter Tryd.func15, Tryd.ntmps15
  go_wp2_with fail
  go_ret
  exact ⟨rfl, rfl⟩
/-- The ids of a state. -/
def idsT (L : List Ten) (st : Int) : List (List UInt8) := (L.filter fun x => x.state == st).map (·.id)
theorem idsT_succ {L : List Ten} {k : Nat} {x : Ten} (hx : L[k]? = some x) (st : Int) : idsT (L.take (k + 1)) st = idsT (L.take k) st ++ (if x.state == st then [x.id] else []) := by
  unfold idsT
  rw [List.take_add_one, hx, List.filter_append, List.map_append]
  congr 1
  simp only [Option.toList_some, List.filter_cons, List.filter_nil]
  split <;> rfl
theorem idsT_len (L : List Ten) (st : Int) : (idsT L st).length ≤ L.length := by
  unfold idsT
  rw [List.length_map]
  exact List.length_filter_le _ _
theorem infoStrT : (Tryd.prog.info? 9).map (fun i => (i.zero, i.size, i.bytes)) = some (some (.string ⟨#[]⟩), 1, 16) := by kernel_rfl
set_option maxRecDepth 100000 in
set_option maxHeartbeats 2000000 in
theorem idsT_any (sb base : Nat) (q : Option Addr) (c : Nat) (pl : Int) (L : List Ten) (st : Int) (w : World) (h : TabAt w sb base q c pl L) (hl : L.length ≤ 1000000) :
    Calls Tryd.prog 25 #[.pointer (some ⟨sb, 0, none⟩), .int .i64 st] w fun e w' => ∃ qo co, e = .returned (.slice qo (idsT L st).length co) ∧ Ow w' w.heap.size 9 1 (.slice qo (idsT L st).length co) (idsT L st).length (strsC (idsT L st)) ∧ Below w.heap.size w w' := by
  obtain ⟨i0, hi0, hz0, hz1, hz2⟩ := parts3M infoStrT
  have HH := Lib.hid h
  obtain ⟨c0, c1, _, _⟩ := h.cells
  clear h
  go_enter Tryd.func25, Tryd.ntmps25
  go_wp2_with fail
  go_loopw [5, 15] (fun ov iv wr => ∃ (k : Nat) (qo : Option Addr) (co : Nat) (O : List (List UInt8)), k ≤ L.length ∧ iv = .int .i64 k ∧ ov = .slice qo O.length co ∧ Hid (O = idsT (L.take k) st) ∧ Hid (Ow wr w.heap.size 9 1 (.slice qo O.length co) O.length (strsC O)) ∧ Hid (Below w.heap.size w wr)) (fun _ iv _ => L.length - (intOf iv).toNat)
  case atStart => exact ⟨0, none, 0, [], Nat.zero_le _, rfl, rfl, Lib.hid rfl, Lib.hid (Ow.nil _ _ _ _), Lib.hid (Below.refl _ _)⟩
  case round =>
    obtain ⟨k, qo, co, O, hk, rfl, rfl, HOD, HO, HB⟩ := hrel
    by_cases hlt : k < L.length
    · have hltI : (k : Int) < (L.length : Int) := by omega
      obtain ⟨x, hx⟩ : ∃ x, L[k]? = some x := ⟨_, List.getElem?_eq_getElem hlt⟩
      obtain ⟨g, rfl⟩ := HH.out.2.2.some_of_lt (by omega)
      have HS := Lib.hid (HH.out.below HB.out)
      have hld := ten_load (Rd.of_ow HS.out.2.2) hx
      rw [Nat.zero_add] at hld
      have HLD := Lib.hid hld
      have HT := Lib.hid (idsT_succ hx st)
      have hol : O.length ≤ k := by rw [HOD.out]; have := idsT_len (L.take k) st; rw [List.length_take] at this; omega
      obtain ⟨xi, xs, xp, xd⟩ := x
      have hrl := HB.out.size
      clear hx hld
      unfold tenA at HLD
      have hsv : (wr.alloc (.cells #[.string ⟨xi.toArray⟩, .int .i64 xs, .int .i64 xp, .pointer xd] 111)).heap.size = wr.heap.size + 1 := Array.size_push _
      have hbv : Below wr.heap.size wr (wr.alloc (.cells #[.string ⟨xi.toArray⟩, .int .i64 xs, .int .i64 xp, .pointer xd] 111)) := (Below.refl wr.heap.size wr).alloc (Nat.le_refl _) _
      by_cases hst : xs = st
      · have hstB : (xs == st) = true := by rw [beq_iff_eq]; exact hst
        obtain ⟨wl, hwl⟩ : ∃ wl, wl = (wr.alloc (.cells #[.string ⟨xi.toArray⟩, .int .i64 xs, .int .i64 xp, .pointer xd] 111)).alloc (.cells #[.string ⟨xi.toArray⟩] 9) := ⟨_, rfl⟩
        have hlit := Rd_lit (wr.alloc (.cells #[.string ⟨xi.toArray⟩, .int .i64 xs, .int .i64 xp, .pointer xd] 111)) #[.string ⟨xi.toArray⟩] 9 1 1 rfl (by decide)
        have hbl : Below wr.heap.size wr wl := by rw [hwl]; exact hbv.alloc (by rw [hsv]; omega) _
        rw [hsv, ← hwl] at hlit
        have HLIT := Lib.hid hlit
        have HWL := Lib.hid hwl
        have HOL := Lib.hid (HO.out.below hbl)
        have hws := hbl.size
        have HBL := Lib.hid hbl
        have HD1 : Hid (O ++ [xi] = idsT (L.take (k + 1)) st) := Lib.hid (by rw [HT.out, HOD.out]; show _ = _ ++ (if (xs == st) = true then _ else _); rw [if_pos hstB])
        clear hsv hlit hwl hbl hbv hst
        go_wp2_with (first | (refine l_load rfl _ _ rfl _ HLD.out ?_) | (at_builtin; go_must (rw [← HWL.out]); go_must (refine app_ow3 rfl _ _ 29 29 rfl w.heap.size 9 i0 (.string ⟨#[]⟩) 1 16 Tryd.underlying29 hi0 hz0 hz1 hz2 (by rfl) _ O.length _ rfl HOL.out 1 _ rfl (Rd.src Tryd.underlying29 HLIT.out (strsC_one [xi])) (by unfold maxLen; omega) (by omega) (by omega) ?_); go_must (intro v4 w4 how4 hg4 hn4); go_must (obtain ⟨q4, c4, rfl⟩ := Ow_form how4); go_must (refine Hid.out ?_)))
        refine Lib.hid ?_
        have hon : O.length + 1 = (O ++ [xi]).length := by simp
        have HO4 : Hid (Ow w4 w.heap.size 9 1 (.slice q4 (O ++ [xi]).length c4) (O ++ [xi]).length (strsC (O ++ [xi]))) := Lib.hid (by rw [strsC_append, ← hon]; exact how4)
        have hk4 : Kp (fun j => (Value.slice qo O.length co).ownBlock = some j) wr w4 := (Kp.of_below HBL.out).trans (Kp.of_grown hg4) (fun _ _ h => h)
        have HB4 : Hid (Below w.heap.size w w4) := Lib.hid (HB.out.trans (hk4.below hrl (fun j hj => (HO.out.lt j hj).1)))
        clear how4 hg4 hn4 hk4
        rw [hon]
        clear hon
        go_wp2_with fail
        exact ⟨⟨k + 1, q4, c4, O ++ [xi], by omega, by go_num, rfl, HD1, HO4, HB4⟩, by simp [intOf]; omega⟩
      · have hstB : (xs == st) = false := by rw [beq_eq_false_iff_ne]; exact hst
        obtain ⟨wl, hwl⟩ : ∃ wl, wl = wr.alloc (.cells #[.string ⟨xi.toArray⟩, .int .i64 xs, .int .i64 xp, .pointer xd] 111) := ⟨_, rfl⟩
        rw [← hwl] at hbv
        have HWL := Lib.hid hwl
        have HO4 := Lib.hid (HO.out.below hbv)
        have HB4 := Lib.hid (HB.out.trans (hbv.mono hrl))
        have HD1 : Hid (O = idsT (L.take (k + 1)) st) := Lib.hid (by rw [HT.out, ← HOD.out]; show _ = _ ++ (if (xs == st) = true then _ else _); rw [hstB]; simp)
        clear hsv hwl hbv hst
        go_wp2_with (refine l_load rfl _ _ rfl _ HLD.out ?_)
        rw [← HWL.out]
        exact ⟨⟨k + 1, qo, co, O, by omega, by go_num, rfl, HD1, HO4, HB4⟩, by simp [intOf]; omega⟩
    · have hltI : ¬ (k : Int) < (L.length : Int) := by omega
      obtain rfl : k = L.length := by omega
      have HE : Hid (O = idsT L st) := Lib.hid (by rw [HOD.out, List.take_length])
      go_wp2_with fail
      go_ret
      exact ⟨qo, co, by rw [← HE.out]; rfl, by rw [← HE.out]; exact HO.out, HB.out⟩
end Ten
end Go.Proofs.YtmkoiddfkanmiaaDoor

/- A part of the proof. Plain; no condition. -/
import Derived.Test.YtjkbpdobeljmjaaGreatDoorP14
import Derived.Test.YtjkbpdobeljmjaaGreatDoorP13
/- The walks of a table's Hold, Free, Delete, Ids; none's answers. -/
namespace Go.Proofs.YtjkbpdobeljmjaaGreatDoor
open Go.RowKit Bits Mem Sha Cad
namespace Ten
def idsT (L : List Ten) (st : Int) : List (List UInt8) := (L.filter fun x => x.state == st).map (·.id)
theorem idsT_succ {L : List Ten} {k : Nat} {x : Ten} (hx : L[k]? = some x) (st : Int) : idsT (L.take (k + 1)) st = idsT (L.take k) st ++ (if x.state == st then [x.id] else []) := by
  unfold idsT
  rw [List.take_add_one, hx, List.filter_append, List.map_append]
  congr 1
  simp only [Option.toList_some, List.filter_cons, List.filter_nil]
  split <;> rfl
theorem idsT_len (L : List Ten) (st : Int) : (idsT L st).length ≤ L.length := by
  unfold idsT
  rw [List.length_map]
  exact List.length_filter_le _ _
theorem infoStrT : (Tryz.prog.info? 9).map (fun i => (i.zero, i.size, i.bytes)) = some (some (.string ⟨#[]⟩), 1, 16) := by kernel_rfl
set_option maxRecDepth 100000 in
set_option maxHeartbeats 2000000 in
theorem idsT_any (sb base : Nat) (q : Option Addr) (c : Nat) (pl : Int) (L : List Ten) (st : Int) (w : World) (h : TabAt w sb base q c pl L) (hl : L.length ≤ 1000000) :
    Calls Tryz.prog 42 #[.pointer (some ⟨sb, 0, none⟩), .int .i64 st] w fun e w' => ∃ qo co, e = .returned (.slice qo (idsT L st).length co) ∧ Ow w' w.heap.size 9 1 (.slice qo (idsT L st).length co) (idsT L st).length (strsC (idsT L st)) ∧ Below w.heap.size w w' := by
  obtain ⟨i0, hi0, hz0, hz1, hz2⟩ := parts3M infoStrT
  have HH := Lib.hid h
  obtain ⟨c0, c1, _, _⟩ := h.cells
  clear h
  go_enter Tryz.func42, Tryz.ntmps42
  go_wp2_with fail
  go_loopw [5, 15] (fun ov iv wr => ∃ (k : Nat) (qo : Option Addr) (co : Nat) (O : List (List UInt8)), k ≤ L.length ∧ iv = .int .i64 k ∧ ov = .slice qo O.length co ∧ Hid (O = idsT (L.take k) st) ∧ Hid (Ow wr w.heap.size 9 1 (.slice qo O.length co) O.length (strsC O)) ∧ Hid (Below w.heap.size w wr)) (fun _ iv _ => L.length - (intOf iv).toNat)
  case atStart => exact ⟨0, none, 0, [], Nat.zero_le _, rfl, rfl, Lib.hid rfl, Lib.hid (Ow.nil _ _ _ _), Lib.hid (Below.refl _ _)⟩
  case round =>
    obtain ⟨k, qo, co, O, hk, rfl, rfl, HOD, HO, HB⟩ := hrel
    by_cases hlt : k < L.length
    · have hltI : (k : Int) < (L.length : Int) := by omega
      obtain ⟨x, hx⟩ : ∃ x, L[k]? = some x := ⟨_, List.getElem?_eq_getElem hlt⟩
      obtain ⟨g, rfl⟩ := HH.out.2.2.some_of_lt (by omega)
      have HS := Lib.hid (HH.out.below HB.out)
      have hld := ten_load (Rd.of_ow HS.out.2.2) hx
      rw [Nat.zero_add] at hld
      have HLD := Lib.hid hld
      have HT := Lib.hid (idsT_succ hx st)
      have hol : O.length ≤ k := by rw [HOD.out]; have := idsT_len (L.take k) st; rw [List.length_take] at this; omega
      obtain ⟨xi, xs, xp, xd⟩ := x
      have hrl := HB.out.size
      clear hx hld
      unfold tenA at HLD
      have hsv : (wr.alloc (.cells #[.string ⟨xi.toArray⟩, .int .i64 xs, .int .i64 xp, .pointer xd] 138)).heap.size = wr.heap.size + 1 := Array.size_push _
      have hbv : Below wr.heap.size wr (wr.alloc (.cells #[.string ⟨xi.toArray⟩, .int .i64 xs, .int .i64 xp, .pointer xd] 138)) := (Below.refl wr.heap.size wr).alloc (Nat.le_refl _) _
      by_cases hst : xs = st
      · have hstB : (xs == st) = true := by rw [beq_iff_eq]; exact hst
        obtain ⟨wl, hwl⟩ : ∃ wl, wl = (wr.alloc (.cells #[.string ⟨xi.toArray⟩, .int .i64 xs, .int .i64 xp, .pointer xd] 138)).alloc (.cells #[.string ⟨xi.toArray⟩] 9) := ⟨_, rfl⟩
        have hlit := Rd_lit (wr.alloc (.cells #[.string ⟨xi.toArray⟩, .int .i64 xs, .int .i64 xp, .pointer xd] 138)) #[.string ⟨xi.toArray⟩] 9 1 1 rfl (by decide)
        have hbl : Below wr.heap.size wr wl := by rw [hwl]; exact hbv.alloc (by rw [hsv]; omega) _
        rw [hsv, ← hwl] at hlit
        have HLIT := Lib.hid hlit
        have HWL := Lib.hid hwl
        have HOL := Lib.hid (HO.out.below hbl)
        have hws := hbl.size
        have HBL := Lib.hid hbl
        have HD1 : Hid (O ++ [xi] = idsT (L.take (k + 1)) st) := Lib.hid (by rw [HT.out, HOD.out]; show _ = _ ++ (if (xs == st) = true then _ else _); rw [if_pos hstB])
        clear hsv hlit hwl hbl hbv hst
        go_wp2_with (first | (refine l_load rfl _ _ rfl _ HLD.out ?_) | (at_builtin; go_must (rw [← HWL.out]); go_must (refine app_ow3 rfl _ _ 83 83 rfl w.heap.size 9 i0 (.string ⟨#[]⟩) 1 16 Tryz.underlying83 hi0 hz0 hz1 hz2 (by rfl) _ O.length _ rfl HOL.out 1 _ rfl (Rd.src Tryz.underlying83 HLIT.out (strsC_one [xi])) (by unfold maxLen; omega) (by omega) (by omega) ?_); go_must (intro v4 w4 how4 hg4 hn4); go_must (obtain ⟨q4, c4, rfl⟩ := Ow_form how4); go_must (refine Hid.out ?_)))
        refine Lib.hid ?_
        have hon : O.length + 1 = (O ++ [xi]).length := by simp
        have HO4 : Hid (Ow w4 w.heap.size 9 1 (.slice q4 (O ++ [xi]).length c4) (O ++ [xi]).length (strsC (O ++ [xi]))) := Lib.hid (by rw [strsC_append, ← hon]; exact how4)
        have hk4 : Kp (fun j => (Value.slice qo O.length co).ownBlock = some j) wr w4 := (Kp.of_below HBL.out).trans (Kp.of_grown hg4) (fun _ _ h => h)
        have HB4 : Hid (Below w.heap.size w w4) := Lib.hid (HB.out.trans (hk4.below hrl (fun j hj => (HO.out.lt j hj).1)))
        clear how4 hg4 hn4 hk4
        rw [hon]
        clear hon
        go_wp2_with fail
        exact ⟨⟨k + 1, q4, c4, O ++ [xi], by omega, by go_num, rfl, HD1, HO4, HB4⟩, by simp [intOf]; omega⟩
      · have hstB : (xs == st) = false := by rw [beq_eq_false_iff_ne]; exact hst
        obtain ⟨wl, hwl⟩ : ∃ wl, wl = wr.alloc (.cells #[.string ⟨xi.toArray⟩, .int .i64 xs, .int .i64 xp, .pointer xd] 138) := ⟨_, rfl⟩
        rw [← hwl] at hbv
        have HWL := Lib.hid hwl
        have HO4 := Lib.hid (HO.out.below hbv)
        have HB4 := Lib.hid (HB.out.trans (hbv.mono hrl))
        have HD1 : Hid (O = idsT (L.take (k + 1)) st) := Lib.hid (by rw [HT.out, ← HOD.out]; show _ = _ ++ (if (xs == st) = true then _ else _); rw [hstB]; simp)
        clear hsv hwl hbv hst
        go_wp2_with (refine l_load rfl _ _ rfl _ HLD.out ?_)
        rw [← HWL.out]
        exact ⟨⟨k + 1, qo, co, O, by omega, by go_num, rfl, HD1, HO4, HB4⟩, by simp [intOf]; omega⟩
    · have hltI : ¬ (k : Int) < (L.length : Int) := by omega
      obtain rfl : k = L.length := by omega
      have HE : Hid (O = idsT L st) := Lib.hid (by rw [HOD.out, List.take_length])
      go_wp2_with fail
      go_ret
      exact ⟨qo, co, by rw [← HE.out]; rfl, by rw [← HE.out]; exact HO.out, HB.out⟩
end Ten
end Go.Proofs.YtjkbpdobeljmjaaGreatDoor


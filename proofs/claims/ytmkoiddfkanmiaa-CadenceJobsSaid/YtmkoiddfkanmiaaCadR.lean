/- The walks of the schedule's Next, Age and Ids, on any schedule; Tick at the last tick; none's answers. -/
import Derived.Test.YtmkoiddfkanmiaaCadQ
namespace Go.Proofs.Ytmkoiddfkanmiaa
open Go.RowKit Bits Mem Sha
namespace Cad
/-- When one is due next, and the error. -/
def nextOne (x : One) (now : Int) : Int × Int :=
  if 9223372036854775807 - x.age < x.period - x.age % x.period then
    if 9223372036854775807 % x.period = 0 then
      if 1 ≤ 9223372036854775807 - x.age then
        if 9223372036854775807 - now < 9223372036854775807 - x.age then (0, 8) else (now + (9223372036854775807 - x.age), 0)
      else if 9223372036854775807 - now < 1 then (0, 8) else (now + 1, 0)
    else (0, 8)
  else if 9223372036854775807 - now < x.period - x.age % x.period then (0, 8) else (now + (x.period - x.age % x.period), 0)
def nextD (L : List One) (now : Int) (id : List UInt8) : Int × Int := match (if has L id then L[place L id]? else none) with
  | some x => nextOne x now
  | none => (0, 10)
theorem has_some {L : List One} {id : List UInt8} (h : has L id = true) : ∃ x, L[place L id]? = some x ∧ x.id = id := by
  unfold has foundAt at h
  split at h
  · rename_i x hx; exact ⟨x, hx, cmpB_zero _ _ (by simpa using h)⟩
  · cases h
theorem nextD_some {L : List One} {now : Int} {id : List UInt8} {x : One} (h : has L id = true) (hx : L[place L id]? = some x) : nextD L now id = nextOne x now := by
  unfold nextD; rw [if_pos h, hx]
theorem nextD_none {L : List One} {now : Int} {id : List UInt8} (h : has L id = false) : nextD L now id = (0, 10) := by
  unfold nextD; rw [if_neg (by rw [h]; decide)]
set_option maxRecDepth 100000 in
set_option maxHeartbeats 4000000 in
theorem next_any (sb base : Nat) (q : Option Addr) (c : Nat) (now : Int) (L : List One) (id : List UInt8) (w : World) (h : SchedAt w sb base q c now L) (hl : L.length ≤ 1000000) (hg : Good L) (hn : 0 ≤ now) (hn2 : now ≤ 9223372036854775807) :
    Calls Try.prog 9 #[.pointer (some ⟨sb, 0, none⟩), .string ⟨id.toArray⟩] w fun e w' => e = .returned (.tuple #[.int .i64 (nextD L now id).1, .int .i64 (nextD L now id).2]) ∧ Below w.heap.size w w' := by
  have HG := Lib.hid (get_any sb base q c now L id w h hl (hg.srt.mono id))
  have HH := Lib.hid h
  have HE := Lib.hid hg.each
  clear h hg
  go_enter Try.func9, Try.ntmps9
  go_wp2_with fail
  refine HG.out.mono ?_
  rintro e w2 ⟨⟨n, hst, hor⟩, hb⟩
  obtain rfl := hst.place_eq
  have HB2 := Lib.hid hb
  have H2 := Lib.hid (HH.out.below hb)
  clear hb hst
  rcases hor with ⟨hf, g, rfl, rfl⟩ | ⟨hf, rfl⟩
  · have hf' : has L id = true := hf
    obtain ⟨x, hx, _⟩ := has_some hf'
    have HN := Lib.hid (nextD_some (now := now) hf' hx)
    obtain ⟨r0, r1, r2, _, _⟩ := row_cells H2.out.2.2 rfl hx
    obtain ⟨c0, c1, f0, f1⟩ := H2.out.cells
    have hgl := (H2.out.2.2.lt g rfl).2
    have hsl := (Array.getElem?_eq_some_iff.1 H2.out.1).1
    obtain ⟨p1, p2, p3, p4⟩ := HE.out x (List.mem_of_getElem? hx)
    obtain ⟨k, hk⟩ : ∃ k, k = place L id := ⟨_, rfl⟩
    rw [← hk] at r0 r1 r2 ⊢
    obtain ⟨xi, pr, a⟩ := x
    have r1 : w2.cell? ⟨g, k * 3 + 1, none⟩ = some (.int .i64 pr) := r1
    have r2 : w2.cell? ⟨g, k * 3 + 2, none⟩ = some (.int .i64 a) := r2
    have p1 : 1 ≤ pr := p1
    have p2 : pr ≤ 1000 := p2
    have p3 : 0 ≤ a := p3
    have p4 : a ≤ 9223372036854775807 := p4
    have hp0 : ¬ pr = 0 := by omega
    have m1 : 0 ≤ a % pr := Int.emod_nonneg _ hp0
    have m2 : a % pr < pr := Int.emod_lt_of_pos _ (by omega)
    have m3 : 0 ≤ (9223372036854775807 : Int) % pr := Int.emod_nonneg _ hp0
    have m4 : (9223372036854775807 : Int) % pr < pr := Int.emod_lt_of_pos _ (by omega)
    clear hf hf' hx hk
    go_wp2_with fail
    refine Rc.region (w2.heap.size) 15 [] [] (by kernel_rfl) (Nat.le_refl _) (by kernel_rfl) ?_; intro p; simp only [List.take, List.drop]
    iterate 15 (refine Rc.rK rfl rfl ?_; intro K hK; apply Exists.intro; refine ⟨?_, ?_⟩; (focus (intro x hx; have e1 := Rc.cell_le hx hgl r1; have e2 := Rc.cell_le hx hgl r2; go_simp; (first | (fail) | ((try go_bits); (try go_simp); (try rfl))))); go_simp; refine hK _ ?_; clear hK K)
    refine Rc.done fun wz Fs hx hle hg => ?_
    have hbz := Rc.undrew hx
    have s0 := Below.cell hbz (p := ⟨sb, 0, none⟩) hsl |>.trans c0
    have s1 := Below.cell hbz (p := ⟨g, k * 3 + 1, none⟩) hgl |>.trans r1
    have s2 := Below.cell hbz (p := ⟨g, k * 3 + 2, none⟩) hgl |>.trans r2
    have HBZ := Lib.hid (HB2.out.trans (hbz.mono HB2.out.size))
    clear hx hle hg hbz c0 r1 r2 r0 f0 f1 c1
    by_cases n1 : 9223372036854775807 - a < pr - a % pr
    · by_cases n3 : (9223372036854775807 : Int) % pr = 0
      · by_cases n4 : 1 ≤ 9223372036854775807 - a
        · by_cases n2 : 9223372036854775807 - now < 9223372036854775807 - a
          · have HV : Hid (nextD L now id = (0, 8)) := Lib.hid (by rw [HN.out]; unfold nextOne; rw [if_pos n1, if_pos n3, if_pos n4, if_pos n2])
            go_wp2_with fail
            refine NoPanic.normal ?_
            go_wp2_with fail
            go_ret2
            exact ⟨by rw [HV.out]; rfl, HBZ.out⟩
          · have HV : Hid (nextD L now id = (now + (9223372036854775807 - a), 0)) := Lib.hid (by rw [HN.out]; unfold nextOne; rw [if_pos n1, if_pos n3, if_pos n4, if_neg n2])
            go_wp2_with fail
            refine NoPanic.normal ?_
            go_wp2_with fail
            go_ret2
            exact ⟨by rw [HV.out]; rfl, HBZ.out⟩
        · by_cases n2 : 9223372036854775807 - now < 1
          · have HV : Hid (nextD L now id = (0, 8)) := Lib.hid (by rw [HN.out]; unfold nextOne; rw [if_pos n1, if_pos n3, if_neg n4, if_pos n2])
            go_wp2_with fail
            refine NoPanic.normal ?_
            go_wp2_with fail
            go_ret2
            exact ⟨by rw [HV.out]; rfl, HBZ.out⟩
          · have HV : Hid (nextD L now id = (now + 1, 0)) := Lib.hid (by rw [HN.out]; unfold nextOne; rw [if_pos n1, if_pos n3, if_neg n4, if_neg n2])
            go_wp2_with fail
            refine NoPanic.normal ?_
            go_wp2_with fail
            go_ret2
            exact ⟨by rw [HV.out]; rfl, HBZ.out⟩
      · have HV : Hid (nextD L now id = (0, 8)) := Lib.hid (by rw [HN.out]; unfold nextOne; rw [if_pos n1, if_neg n3])
        go_wp2_with fail
        refine NoPanic.normal ?_
        go_wp2_with fail
        go_ret2
        exact ⟨by rw [HV.out]; rfl, HBZ.out⟩
    · by_cases n2 : 9223372036854775807 - now < pr - a % pr
      · have HV : Hid (nextD L now id = (0, 8)) := Lib.hid (by rw [HN.out]; unfold nextOne; rw [if_neg n1, if_pos n2])
        go_wp2_with fail
        refine NoPanic.normal ?_
        go_wp2_with fail
        go_ret2
        exact ⟨by rw [HV.out]; rfl, HBZ.out⟩
      · have HV : Hid (nextD L now id = (now + (pr - a % pr), 0)) := Lib.hid (by rw [HN.out]; unfold nextOne; rw [if_neg n1, if_neg n2])
        go_wp2_with fail
        refine NoPanic.normal ?_
        go_wp2_with fail
        go_ret2
        exact ⟨by rw [HV.out]; rfl, HBZ.out⟩
  · have HV : Hid (nextD L now id = (0, 10)) := Lib.hid (nextD_none hf)
    clear hf
    go_wp2_with fail
    go_ret2
    exact ⟨by rw [HV.out]; rfl, HB2.out⟩
/-- How old one is. -/
def ageD (L : List One) (id : List UInt8) : Int × Int := match (if has L id then L[place L id]? else none) with
  | some x => (x.age, 0)
  | none => (0, 10)
set_option maxRecDepth 100000 in
set_option maxHeartbeats 2000000 in
theorem age_held (sb base : Nat) (q : Option Addr) (c : Nat) (now : Int) (L : List One) (w : World) (h : SchedAt w sb base q c now L) (hl : L.length ≤ 1000000) (hg : Srt L) (k : Nat) (x : One) (hx : L[k]? = some x) :
    Calls Try.prog 14 #[.pointer (some ⟨sb, 0, none⟩), .string ⟨x.id.toArray⟩] w fun e w' => e = .returned (.tuple #[.int .i64 x.age, .int .i64 0]) ∧ Below w.heap.size w w' := by
  have HG := Lib.hid (get_any sb base q c now L x.id w h hl (hg.mono x.id))
  have HH := Lib.hid h
  obtain ⟨_, hhas, hpl⟩ := findD_at hg hx rfl
  have HHAS := Lib.hid hhas
  have HPL := Lib.hid hpl
  have HX := Lib.hid hx
  clear h hg hx hhas hpl
  go_enter Try.func14, Try.ntmps14
  go_wp2_with fail
  refine HG.out.mono ?_
  rintro e w2 ⟨⟨n, hst, hor⟩, hb⟩
  have hn : n = k := hst.place_eq.trans HPL.out
  subst hn
  have HB2 := Lib.hid hb
  have H2 := Lib.hid (HH.out.below hb)
  clear hb
  rcases hor with ⟨hf, g, rfl, rfl⟩ | ⟨hf, rfl⟩
  · obtain ⟨r0, r1, r2, _, _⟩ := row_cells H2.out.2.2 rfl HX.out
    clear hst hf
    go_wp2_with fail
    go_ret2
    exact ⟨rfl, HB2.out⟩
  · exfalso
    have := HHAS.out
    unfold has at this
    rw [HPL.out, hf] at this
    cases this
set_option maxRecDepth 100000 in
set_option maxHeartbeats 2000000 in
theorem ids_any (sb base : Nat) (q : Option Addr) (c : Nat) (now : Int) (L : List One) (w : World) (h : SchedAt w sb base q c now L) (hl : L.length ≤ 1000000) :
    Calls Try.prog 15 #[.pointer (some ⟨sb, 0, none⟩)] w fun e w' => ∃ qo co, e = .returned (.slice qo L.length co) ∧ Rd w' 1 (.slice qo L.length co) L.length (strsC (L.map (·.id))) ∧ Below w.heap.size w w' := by
  obtain ⟨i0, hi0, hz0, hz1, hz2⟩ := parts3C infoStrC
  have HH := Lib.hid h
  obtain ⟨c0, c1, _, _⟩ := h.cells
  have HOB : Hid (∀ j, (Value.slice q L.length c).ownBlock = some j → j < w.heap.size) := Lib.hid (fun j hj => (h.2.2.lt j hj).2)
  clear h
  go_enter Try.func15, Try.ntmps15
  go_wp2_with fail
  go_loopw [3, 13] (fun ov iv wr => ∃ (k : Nat) (qo : Option Addr) (co : Nat), k ≤ L.length ∧ iv = .int .i64 k ∧ ov = .slice qo k co ∧ Hid (Ow wr w.heap.size 9 1 (.slice qo k co) k (strsC ((L.take k).map (·.id)))) ∧ Hid (Below w.heap.size w wr)) (fun _ iv _ => L.length - (intOf iv).toNat)
  case atStart => exact ⟨0, none, 0, Nat.zero_le _, rfl, rfl, Lib.hid (Ow.nil _ _ _ _), Lib.hid (Below.refl _ _)⟩
  case round =>
    obtain ⟨k, qo, co, hk, rfl, rfl, HO, HB⟩ := hrel
    by_cases hlt : k < L.length
    · have hltI : (k : Int) < (L.length : Int) := by omega
      obtain ⟨x, hx⟩ : ∃ x, L[k]? = some x := ⟨_, List.getElem?_eq_getElem hlt⟩
      obtain ⟨g, rfl⟩ := HH.out.2.2.some_of_lt (by omega)
      have HS := Lib.hid (HH.out.below HB.out)
      have hld := one_load (Rd.of_ow HS.out.2.2) hx
      rw [Nat.zero_add] at hld
      have HLD := Lib.hid hld
      have HT : Hid (strsC ((L.take (k + 1)).map (·.id)) = strsC ((L.take k).map (·.id)) ++ [.string ⟨x.id.toArray⟩]) := Lib.hid (by rw [List.take_add_one, hx]; simp [strsC])
      obtain ⟨xi, xp, xa⟩ := x
      have hrl := HB.out.size
      clear hx hld
      unfold oneA at HLD
      obtain ⟨wl, hwl⟩ : ∃ wl, wl = (wr.alloc (.cells #[.string ⟨xi.toArray⟩, .int .i64 xp, .int .i64 xa] 58)).alloc (.cells #[.string ⟨xi.toArray⟩] 9) := ⟨_, rfl⟩
      have hsv : (wr.alloc (.cells #[.string ⟨xi.toArray⟩, .int .i64 xp, .int .i64 xa] 58)).heap.size = wr.heap.size + 1 := Array.size_push _
      have hlit := Rd_lit (wr.alloc (.cells #[.string ⟨xi.toArray⟩, .int .i64 xp, .int .i64 xa] 58)) #[.string ⟨xi.toArray⟩] 9 1 1 rfl (by decide)
      have hbl : Below wr.heap.size wr wl := by rw [hwl]; exact ((Below.refl wr.heap.size wr).alloc (Nat.le_refl _) _).alloc (by rw [hsv]; omega) _
      rw [hsv, ← hwl] at hlit
      have HLIT := Lib.hid hlit
      have HWL := Lib.hid hwl
      have HOL := Lib.hid (HO.out.below hbl)
      have hws := hbl.size
      have HBL := Lib.hid hbl
      clear hsv hlit hwl hbl
      go_wp2_with (first | (refine l_load rfl _ _ rfl _ HLD.out ?_) | (at_builtin; go_must (rw [← HWL.out]); go_must (refine app_ow3 rfl _ _ 31 31 rfl w.heap.size 9 i0 (.string ⟨#[]⟩) 1 16 Try.underlying31 hi0 hz0 hz1 hz2 (by rfl) _ k _ rfl HOL.out 1 _ rfl (Rd.src Try.underlying31 HLIT.out (strsC_one [xi])) (by unfold maxLen; omega) (by omega) (by omega) ?_); go_must (intro v4 w4 how4 hg4 hn4); go_must (obtain ⟨q4, c4, rfl⟩ := Ow_form how4); go_must (refine Hid.out ?_)))
      refine Lib.hid ?_
      have HO4 : Hid (Ow w4 w.heap.size 9 1 (.slice q4 (k + 1) c4) (k + 1) (strsC ((L.take (k + 1)).map (·.id)))) := Lib.hid (by rw [HT.out]; exact how4)
      have hk4 : Kp (fun j => (Value.slice qo k co).ownBlock = some j) wr w4 := (Kp.of_below HBL.out).trans (Kp.of_grown hg4) (fun _ _ h => h)
      have HB4 : Hid (Below w.heap.size w w4) := Lib.hid (HB.out.trans (hk4.below hrl (fun j hj => (HO.out.lt j hj).1)))
      clear how4 hg4 hn4 hk4
      go_wp2_with fail
      exact ⟨⟨k + 1, q4, c4, by omega, by go_num, rfl, HO4, HB4⟩, by simp [intOf]; omega⟩
    · have hltI : ¬ (k : Int) < (L.length : Int) := by omega
      obtain rfl : k = L.length := by omega
      go_wp2_with fail
      go_ret
      exact ⟨qo, co, rfl, by have := HO.out; rw [List.take_length] at this; exact Rd.of_ow this, HB.out⟩
end Cad
end Go.Proofs.Ytmkoiddfkanmiaa

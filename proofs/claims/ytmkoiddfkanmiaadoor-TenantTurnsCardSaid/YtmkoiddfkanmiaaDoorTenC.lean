/- The walks of a table's State, Get, Place, Hold, Free, Delete. -/
import Derived.Test.YtmkoiddfkanmiaaDoorTenB
namespace Go.Proofs.YtmkoiddfkanmiaaDoor
open Go.RowKit Bits Mem Sha Cad
namespace Ten
/-- The one an id speaks of. -/
def theT (L : List Ten) (id : List UInt8) : Option Ten := if has (L.map core) id then L[place (L.map core) id]? else none
def stateT (L : List Ten) (id : List UInt8) : Int := match theT L id with
  | some x => x.state
  | none => 0
/-- The error of who asks for one that is live or held. -/
def missT (L : List Ten) (id : List UInt8) : Int := match theT L id with
  | some x => if x.state = 3 then 9 else 0
  | none => 10
theorem missT_eq (L : List Ten) (id : List UInt8) : missD (L.map core) id = missT L id := by
  unfold missD missT theT
  cases has (L.map core) id
  · rfl
  · simp only [if_true, List.getElem?_map]
    cases L[place (L.map core) id]? <;> rfl
def getT (L : List Ten) (id : List UInt8) (held : Bool) : Option Addr × Int := match theT L id with
  | some x => if x.state = 3 then (none, 9) else if x.state = 2 ∧ held = false then (none, 12) else (x.dir, 0)
  | none => (none, 10)
def placeT (L : List Ten) (id : List UInt8) : Int × Int := match theT L id with
  | some x => if x.state = 3 then (0, 9) else (x.place, 0)
  | none => (0, 10)
def turnT (L : List Ten) (id : List UInt8) (st : Int) : Int × List Ten := match theT L id with
  | some x => if x.state = 3 then (9, L) else if x.state = st then (12, L) else (0, L.set (place (L.map core) id) { x with state := st })
  | none => (10, L)
def delT (L : List Ten) (id : List UInt8) : (Int × Int) × List Ten := match theT L id with
  | some x => if x.state = 3 then ((0, 9), L) else ((x.place, 0), L.set (place (L.map core) id) { x with state := 3, dir := none })
  | none => ((0, 10), L)
theorem theT_some {L : List Ten} {id : List UInt8} {x : Ten} (h : has (L.map core) id = true) (hx : L[place (L.map core) id]? = some x) : theT L id = some x := by unfold theT; rw [if_pos h, hx]
theorem theT_none {L : List Ten} {id : List UInt8} (h : has (L.map core) id = false) : theT L id = none := by unfold theT; rw [if_neg (by rw [h]; decide)]
/-- What get tells, by the one it speaks of. -/
theorem get_cases {L : List Ten} {id : List UInt8} (h : ¬ missD (L.map core) id = 0) : (theT L id = none ∧ missD (L.map core) id = 10) ∨ (∃ x, theT L id = some x ∧ x.state = 3 ∧ missD (L.map core) id = 9) := by
  rw [missT_eq] at h ⊢
  unfold missT at h ⊢
  cases ht : theT L id with
  | none => exact .inl ⟨rfl, rfl⟩
  | some x =>
    rw [ht] at h
    by_cases h3 : x.state = 3
    · exact .inr ⟨x, rfl, h3, if_pos h3⟩
    · exact absurd (if_neg h3) h
set_option maxRecDepth 100000 in
set_option maxHeartbeats 1000000 in
theorem stateT_any (sb base : Nat) (q : Option Addr) (c : Nat) (pl : Int) (L : List Ten) (qi : Option Addr) (ci : Nat) (id : List UInt8) (w : World) (h : TabAt w sb base q c pl L) (hl : L.length ≤ 1000000) (hm : Srt (L.map core)) (hi : Rd w 1 (.slice qi id.length ci) id.length (bys id)) :
    Calls Tryd.prog 20 #[.pointer (some ⟨sb, 0, none⟩), .slice qi id.length ci] w fun e w' => e = .returned (.int .i64 (stateT L id)) ∧ Below w.heap.size w w' := by
  have HF := Lib.hid (findT_any sb base q c pl L qi ci id w h hl hm hi)
  have HH := Lib.hid h
  clear h hm hi
  go_enter Tryd.func20, Tryd.ntmps20
  go_wp2_with fail
  refine HF.out.mono ?_
  rintro e w2 ⟨rfl, hb⟩
  obtain ⟨n, hn⟩ : ∃ n, n = place (L.map core) id := ⟨_, rfl⟩
  have H2 := Lib.hid (HH.out.below hb)
  obtain ⟨c0, c1, _, _⟩ := H2.out.cells
  have HB2 := Lib.hid hb
  clear hb
  cases hf : has (L.map core) id with
  | false =>
    have HV : Hid (stateT L id = 0) := Lib.hid (by unfold stateT; rw [theT_none hf])
    rw [← hn]
    clear hf hn
    go_wp2_with fail
    go_ret
    exact ⟨by rw [HV.out]; rfl, HB2.out⟩
  | true =>
    obtain ⟨x, hx, hid⟩ := has_ten hf
    have HV : Hid (stateT L id = x.state) := Lib.hid (by unfold stateT; rw [theT_some hf hx])
    rw [← hn] at hx
    rw [← hn]
    have hnl := (List.getElem?_eq_some_iff.1 hx).1
    have hnI : (n : Int) < (L.length : Int) := by omega
    obtain ⟨g, rfl⟩ := H2.out.2.2.some_of_lt (by omega)
    obtain ⟨r0, r1, r2, r3, _, _⟩ := tab_cells H2.out.2.2 rfl hx
    clear hf hx hid hn
    go_wp2_with fail
    go_ret
    exact ⟨by rw [HV.out]; rfl, HB2.out⟩
set_option maxRecDepth 100000 in
set_option maxHeartbeats 1000000 in
theorem placeT_any (sb base : Nat) (q : Option Addr) (c : Nat) (pl : Int) (L : List Ten) (qi : Option Addr) (ci : Nat) (id : List UInt8) (w : World) (h : TabAt w sb base q c pl L) (hl : L.length ≤ 1000000) (hm : Srt (L.map core)) (hi : Rd w 1 (.slice qi id.length ci) id.length (bys id)) :
    Calls Tryd.prog 22 #[.pointer (some ⟨sb, 0, none⟩), .slice qi id.length ci] w fun e w' => e = .returned (.tuple #[.int .i64 (placeT L id).1, .int .i64 (placeT L id).2]) ∧ Below w.heap.size w w' := by
  have HG := Lib.hid (getT_any sb base q c pl L qi ci id w h hl hm hi)
  have HH := Lib.hid h
  clear h hm hi
  go_enter Tryd.func22, Tryd.ntmps22
  go_wp2_with fail
  refine HG.out.mono ?_
  rintro e w2 ⟨hor, hb⟩
  have H2 := Lib.hid (HH.out.below hb)
  have HB2 := Lib.hid hb
  obtain ⟨c0, c1, f0, f1⟩ := H2.out.cells
  clear hb
  rcases hor with ⟨_, g, x, rfl, hx, hhas, h3, rfl⟩ | ⟨hm, rfl⟩
  · have HV : Hid (placeT L id = (x.place, 0)) := Lib.hid (by unfold placeT; rw [theT_some hhas hx]; exact if_neg h3)
    obtain ⟨r0, r1, r2, r3, _, _⟩ := tab_cells H2.out.2.2 rfl hx
    clear hx hhas h3
    go_wp2_with fail
    go_ret2
    exact ⟨by rw [HV.out]; rfl, HB2.out⟩
  · rcases get_cases hm with ⟨ht, he⟩ | ⟨x, ht, h3, he⟩
    · have HV : Hid (placeT L id = (0, 10)) := Lib.hid (by unfold placeT; rw [ht])
      rw [he]
      clear ht he hm
      go_wp2_with fail
      go_ret2
      exact ⟨by rw [HV.out]; rfl, HB2.out⟩
    · have HV : Hid (placeT L id = (0, 9)) := Lib.hid (by unfold placeT; rw [ht]; exact if_pos h3)
      rw [he]
      clear ht he hm h3
      go_wp2_with fail
      go_ret2
      exact ⟨by rw [HV.out]; rfl, HB2.out⟩
set_option maxRecDepth 100000 in
set_option maxHeartbeats 1000000 in
theorem getD_any (sb base : Nat) (q : Option Addr) (c : Nat) (pl : Int) (L : List Ten) (qi : Option Addr) (ci : Nat) (id : List UInt8) (held : Bool) (w : World) (h : TabAt w sb base q c pl L) (hl : L.length ≤ 1000000) (hm : Srt (L.map core)) (hi : Rd w 1 (.slice qi id.length ci) id.length (bys id)) :
    Calls Tryd.prog 18 #[.pointer (some ⟨sb, 0, none⟩), .slice qi id.length ci, .bool held] w fun e w' => e = .returned (.tuple #[.pointer (getT L id held).1, .int .i64 (getT L id held).2]) ∧ Below w.heap.size w w' := by
  have HG := Lib.hid (getT_any sb base q c pl L qi ci id w h hl hm hi)
  have HH := Lib.hid h
  clear h hm hi
  go_enter Tryd.func18, Tryd.ntmps18
  go_wp2_with fail
  refine HG.out.mono ?_
  rintro e w2 ⟨hor, hb⟩
  have H2 := Lib.hid (HH.out.below hb)
  have HB2 := Lib.hid hb
  obtain ⟨c0, c1, f0, f1⟩ := H2.out.cells
  clear hb
  rcases hor with ⟨_, g, x, rfl, hx, hhas, h3, rfl⟩ | ⟨hm, rfl⟩
  · obtain ⟨r0, r1, r2, r3, _, _⟩ := tab_cells H2.out.2.2 rfl hx
    by_cases h2 : x.state = 2
    · cases held with
      | false =>
        have HV : Hid (getT L id false = (none, 12)) := Lib.hid (by unfold getT; rw [theT_some hhas hx]; show (if x.state = 3 then _ else _) = _; rw [if_neg h3, if_pos ⟨h2, rfl⟩])
        have h2B : (x.state == 2) = true := by rw [beq_iff_eq]; exact h2
        clear hx hhas h3 h2
        go_wp2_with fail
        go_ret2
        exact ⟨by rw [HV.out]; rfl, HB2.out⟩
      | true =>
        have HV : Hid (getT L id true = (x.dir, 0)) := Lib.hid (by unfold getT; rw [theT_some hhas hx]; show (if x.state = 3 then _ else _) = _; rw [if_neg h3, if_neg (by simp)])
        have h2B : (x.state == 2) = true := by rw [beq_iff_eq]; exact h2
        clear hx hhas h3 h2
        go_wp2_with fail
        go_ret2
        exact ⟨by rw [HV.out]; rfl, HB2.out⟩
    · have HV : Hid (getT L id held = (x.dir, 0)) := Lib.hid (by unfold getT; rw [theT_some hhas hx]; show (if x.state = 3 then _ else _) = _; rw [if_neg h3, if_neg (fun e => h2 e.1)])
      have h2B : (x.state == 2) = false := by rw [beq_eq_false_iff_ne]; exact h2
      clear hx hhas h3 h2
      go_wp2_with fail
      go_ret2
      exact ⟨by rw [HV.out]; rfl, HB2.out⟩
  · rcases get_cases hm with ⟨ht, he⟩ | ⟨x, ht, h3, he⟩
    · have HV : Hid (getT L id held = (none, 10)) := Lib.hid (by unfold getT; rw [ht])
      rw [he]
      clear ht he hm
      go_wp2_with fail
      go_ret2
      exact ⟨by rw [HV.out]; rfl, HB2.out⟩
    · have HV : Hid (getT L id held = (none, 9)) := Lib.hid (by unfold getT; rw [ht]; exact if_pos h3)
      rw [he]
      clear ht he hm h3
      go_wp2_with fail
      go_ret2
      exact ⟨by rw [HV.out]; rfl, HB2.out⟩
set_option maxRecDepth 100000 in
set_option maxHeartbeats 1000000 in
theorem turnT_any (sb base : Nat) (q : Option Addr) (c : Nat) (pl : Int) (L : List Ten) (qi : Option Addr) (ci : Nat) (id : List UInt8) (st : Int) (w : World) (h : TabAt w sb base q c pl L) (hl : L.length ≤ 1000000) (hm : Srt (L.map core)) (hi : Rd w 1 (.slice qi id.length ci) id.length (bys id)) :
    Calls Tryd.prog 44 #[.pointer (some ⟨sb, 0, none⟩), .slice qi id.length ci, .int .i64 st] w fun e w' => e = .returned (.int .i64 (turnT L id st).1) ∧ TabAt w' sb base q c pl (turnT L id st).2 ∧ Kp (fun k => k = sb ∨ (Value.slice q L.length c).ownBlock = some k) w w' := by
  have HG := Lib.hid (getT_any sb base q c pl L qi ci id w h hl hm hi)
  have HH := Lib.hid h
  clear h hm hi
  go_enter Tryd.func44, Tryd.ntmps44
  go_wp2_with fail
  refine HG.out.mono ?_
  rintro e w2 ⟨hor, hb⟩
  have H2 := Lib.hid (HH.out.below hb)
  have HB2 := Lib.hid hb
  obtain ⟨c0, c1, f0, f1⟩ := H2.out.cells
  clear hb
  rcases hor with ⟨_, g, x, rfl, hx, hhas, h3, rfl⟩ | ⟨hm, rfl⟩
  · obtain ⟨r0, r1, r2, r3, fr1, _⟩ := tab_cells H2.out.2.2 rfl hx
    by_cases h2 : x.state = st
    · have HV : Hid (turnT L id st = (12, L)) := Lib.hid (by unfold turnT; rw [theT_some hhas hx]; show (if x.state = 3 then _ else _) = _; rw [if_neg h3, if_pos h2])
      have h2B : (x.state == st) = true := by rw [beq_iff_eq]; exact h2
      clear hx hhas h3 h2
      go_wp2_with fail
      go_ret
      exact ⟨by rw [HV.out]; rfl, by rw [HV.out]; exact H2.out, Kp.of_below HB2.out⟩
    · obtain ⟨n, hn⟩ : ∃ n, n = place (L.map core) id := ⟨_, rfl⟩
      have HV : Hid (turnT L id st = (0, L.set n { x with state := st })) := Lib.hid (by unfold turnT; rw [theT_some hhas hx]; show (if x.state = 3 then _ else _) = _; rw [if_neg h3, if_neg h2, hn])
      have h2B : (x.state == st) = false := by rw [beq_eq_false_iff_ne]; exact h2
      rw [← hn] at hx r0 r1 r2 r3 fr1 ⊢
      have hnl := (List.getElem?_eq_some_iff.1 hx).1
      have ho := H2.out.2.2.set (.int .i64 st) (j := n * 4 + 1) (by omega)
      rw [tens_set L n x { x with state := st } hx 1 (by decide) (.int .i64 st) rfl] at ho
      obtain ⟨w3, hw3⟩ : ∃ w3, w3 = w2.setCell ⟨g, n * 4 + 1, none⟩ (.int .i64 st) := ⟨_, rfl⟩
      have hg3 : w2.grownBy w3 (some g) := by rw [hw3]; exact grown_setCell _ _ _ _
      rw [← hw3] at ho
      have hlt := H2.out.2.2.lt g rfl
      have HS3 : Hid (TabAt w3 sb base (some ⟨g, 0, none⟩) c pl (L.set n { x with state := st })) := Lib.hid ⟨by rw [List.length_set]; exact ((Kp.of_grown hg3).block sb H2.out.lt (fun e => by cases e; have := H2.out.2.1; omega)).trans H2.out.1, H2.out.2.1, by rw [List.length_set]; exact ho⟩
      have HK3 : Hid (Kp (fun k => k = sb ∨ (Value.slice (some ⟨g, 0, none⟩) L.length c).ownBlock = some k) w w3) := Lib.hid ((Kp.of_below HB2.out).trans ((Kp.of_grown hg3).weak (fun k hk => .inr hk)) (fun _ _ h => h))
      have HW3 := Lib.hid hw3
      clear hx hhas h3 h2 ho hg3 hw3 hn
      go_wp2_with (rw [← HW3.out])
      go_ret
      exact ⟨by rw [HV.out]; rfl, by rw [HV.out]; exact HS3.out, HK3.out⟩
  · rcases get_cases hm with ⟨ht, he⟩ | ⟨x, ht, h3, he⟩
    · have HV : Hid (turnT L id st = (10, L)) := Lib.hid (by unfold turnT; rw [ht])
      rw [he]
      clear ht he hm
      go_wp2_with fail
      go_ret
      exact ⟨by rw [HV.out]; rfl, by rw [HV.out]; exact H2.out, Kp.of_below HB2.out⟩
    · have HV : Hid (turnT L id st = (9, L)) := Lib.hid (by unfold turnT; rw [ht]; exact if_pos h3)
      rw [he]
      clear ht he hm h3
      go_wp2_with fail
      go_ret
      exact ⟨by rw [HV.out]; rfl, by rw [HV.out]; exact H2.out, Kp.of_below HB2.out⟩
end Ten
end Go.Proofs.YtmkoiddfkanmiaaDoor

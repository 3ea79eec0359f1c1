/- The walk of beats: the schedule at work, whatever the input. -/
import Derived.Test.YtmkoiddfkanmiaaCadG
namespace Go.Proofs.Ytmkoiddfkanmiaa
open Go.RowKit Bits Mem Sha
namespace Cad
theorem tick_one (sb base : Nat) (q : Option Addr) (c : Nat) (now : Int) (x : One) (w : World) (h : SchedAt w sb base q c now [x]) (hn0 : 0 ≤ now) (hn : now ≤ 1000000)
    (hp : 1 ≤ x.period ∧ x.period ≤ 1000 ∧ 0 ≤ x.age ∧ x.age ≤ 1000000) :
    Calls Try.prog 10 #[.pointer (some ⟨sb, 0, none⟩)] w fun e w' => ∃ qo co, e = .returned (.tuple #[.slice qo (dues [x]).length co, .int .i64 0]) ∧ SchedAt w' sb base q c (now + 1) [tick1 x] ∧
      Rd w' 1 (.slice qo (dues [x]).length co) (dues [x]).length (strsC (dues [x])) ∧ Below (min sb base) w w' := by
  refine (tick_any sb base q c now [x] w h (by simp) hn0 (by omega) (fun y hy => by simp at hy; subst hy; obtain ⟨h1, h2, h3, h4⟩ := hp; exact ⟨h1, h2, h3, by omega⟩)).mono ?_
  rintro e w' ⟨qo, co, he, hs, hr, hk⟩
  have hsl := (Array.getElem?_eq_some_iff.1 h.1).1
  have hsb := h.2.1
  refine ⟨qo, co, he, hs, hr, hk.below (by omega) ?_⟩
  intro k hk
  rcases hk with rfl | hk
  · omega
  · have := (h.2.2.lt k hk).1; omega
set_option maxRecDepth 100000 in
set_option maxHeartbeats 2000000 in
theorem beatsCad_any (w : World) : Calls Try.prog 8 #[] w fun e w' => e = .returned (.bool true) ∧ Below w.heap.size w w' := by
  have h1 : SchedAt (w.alloc (.cells #[.int .i64 (0 : Nat), .slice none 0 0] 53)) w.heap.size (w.heap.size + 1) none 0 0 [] := ⟨heap_alloc_new w _, Nat.lt_succ_self _, Ow.nil _ _ _ _⟩
  have hb1 : Below w.heap.size w (w.alloc (.cells #[.int .i64 (0 : Nat), .slice none 0 0] 53)) := (Below.refl _ _).alloc (Nat.le_refl _) _
  obtain ⟨w1, hw1⟩ : ∃ w1, w1 = w.alloc (.cells #[.int .i64 (0 : Nat), .slice none 0 0] 53) := ⟨_, rfl⟩
  rw [← hw1] at h1 hb1
  have HW1 := Lib.hid hw1
  have H1 := Lib.hid h1
  have HB1 := Lib.hid hb1
  clear h1 hb1 hw1
  go_enter Try.func8, Try.ntmps8
  go_wp2_with fail
  refine (newCad_any 0 w).mono ?_
  rintro e w1' ⟨rfl, hw⟩
  obtain rfl : w1' = w1 := hw.trans HW1.out.symm
  clear hw
  go_wp2_with fail
  refine (add_nil w.heap.size (w.heap.size + 1) 0 2 0 [97] w1' H1.out (by decide) (by decide) (by decide) (by decide)).mono ?_
  rintro e w2 ⟨q, c, rfl, hs2, hk2⟩
  have HS2 := Lib.hid hs2
  have HB2 := Lib.hid (HB1.out.trans (hk2.below HB1.out.size (fun k hk => by rw [hk]; exact Nat.le_refl _)))
  clear hs2 hk2
  go_wp2_with fail
  refine (tick_one w.heap.size (w.heap.size + 1) q c 0 ⟨[97], 2, 0⟩ w2 HS2.out (by decide) (by decide) ⟨by decide, by decide, by decide, by decide⟩).mono ?_
  rintro e w3 ⟨q3, c3, rfl, hs3, hr3, hb3⟩
  have HS3 : Hid (SchedAt w3 w.heap.size (w.heap.size + 1) q c 1 [⟨[97], 2, 1⟩]) := Lib.hid hs3
  have HB3 := Lib.hid (HB2.out.trans (hb3.mono (by omega)))
  have hd3 : (dues [(⟨[97], 2, 0⟩ : One)]).length = 0 := rfl
  rw [hd3]
  clear hs3 hb3 hr3 hd3
  go_wp2_with fail
  refine (tick_one w.heap.size (w.heap.size + 1) q c 1 ⟨[97], 2, 1⟩ w3 HS3.out (by decide) (by decide) ⟨by decide, by decide, by decide, by decide⟩).mono ?_
  rintro e w4 ⟨q4, c4, rfl, hs4, hr4, hb4⟩
  have HS4 : Hid (SchedAt w4 w.heap.size (w.heap.size + 1) q c 2 [⟨[97], 2, 2⟩]) := Lib.hid hs4
  have HB4 := Lib.hid (HB3.out.trans (hb4.mono (by omega)))
  have hr4 : Rd w4 1 (.slice q4 1 c4) 1 [.string ⟨#[97]⟩] := hr4
  have hd4 : (dues [(⟨[97], 2, 1⟩ : One)]).length = 1 := rfl
  rw [hd4]
  obtain ⟨b4, o4, rfl, hbl4, hnc4, hcm4, hcell4⟩ := Rd_lt hr4 (by decide)
  have hck := hcell4 0 _ rfl
  rw [Nat.add_zero] at hck
  clear hs4 hb4 hr4 hd4 hcell4
  go_wp2_with fail
  refine (now_any w.heap.size (w.heap.size + 1) q c 2 _ w4 HS4.out).mono ?_
  rintro e w5 ⟨rfl, rfl⟩
  go_wp2_with fail
  go_ret
  exact ⟨rfl, HB4.out⟩
end Cad
end Go.Proofs.Ytmkoiddfkanmiaa

/- The walks of the schedule's Add, on an empty schedule, and of Next. -/
import Derived.Test.YtmkoiddfkanmiaaCadE
namespace Go.Proofs.Ytmkoiddfkanmiaa
open Go.RowKit Bits Mem Sha
namespace Cad
set_option maxRecDepth 100000 in
set_option maxHeartbeats 2000000 in
theorem insert_nil (b : Nat) (x : One) (w : World) (h : Rd w 3 (.slice (some ⟨b, 0, none⟩) 1 1) 1 (ones [x])) :
    Calls Try.prog 22 #[.slice none 0 0, .int .i64 0, .slice (some ⟨b, 0, none⟩) 1 1] w fun e w' => ∃ q c, e = .returned (.slice q 1 c) ∧ Ow w' w.heap.size 58 3 (.slice q 1 c) 1 (ones [x]) ∧ Below w.heap.size w w' := by
  obtain ⟨i0, hi0, hz0, hz1, hz2⟩ := parts3C infoOne
  have HR := Lib.hid h
  have h1 : ∀ u ∈ ones [x], u.oneCell' = true := by
    intro u hu; simp [ones] at hu; rcases hu with rfl | rfl | rfl <;> rfl
  clear h
  go_enter Try.func22, Try.ntmps22
  go_wp2_with (at_builtin; go_must (refine app_ow rfl _ _ 51 51 rfl w.heap.size 58 i0 (.agg #[.string ⟨#[]⟩, .int .i64 0, .int .i64 0]) 3 32 Try.underlying51 hi0 hz0 hz1 hz2 (by rfl) _ 0 _ rfl (Ow.nil _ _ _ _) _ 1 _ rfl (Rd.src Try.underlying51 HR.out h1) (by unfold maxLen; omega) (by omega) (Nat.le_refl _) ?_); go_must (intro v4 w4 how4 hg4); go_must (obtain ⟨q4, c4, rfl⟩ := Ow_form how4); go_must (refine Hid.out ?_))
  have how4 : Ow w4 w.heap.size 58 3 (.slice q4 1 c4) 1 (ones [x]) := by simpa using how4
  have hb4 : Below w.heap.size w w4 := (Kp.of_grown hg4).below (Nat.le_refl _) (fun k hk => by cases hk)
  refine Lib.hid ?_
  clear hg4
  have HO := Lib.hid how4
  have HB := Lib.hid hb4
  clear how4 hb4
  go_wp2_with fail
  go_ret
  exact ⟨q4, c4, rfl, HO.out, HB.out⟩
set_option maxRecDepth 100000 in
set_option maxHeartbeats 2000000 in
theorem add_nil (sb base : Nat) (now p a : Int) (id : List UInt8) (w : World) (h : SchedAt w sb base none 0 now []) (hp1 : 1 ≤ p) (hp2 : p ≤ 1000) (ha : 0 ≤ a) (_ : a ≤ 9223372036854775807) :
    Calls Try.prog 7 #[.pointer (some ⟨sb, 0, none⟩), .string ⟨id.toArray⟩, .int .i64 p, .int .i64 a] w fun e w' => ∃ q c, e = .returned (.int .i64 0) ∧ SchedAt w' sb (sb + 1) q c now [⟨id, p, a⟩] ∧ Kp (fun k => k = sb) w w' := by
  have HF := Lib.hid (find_any sb base none 0 now [] id w h (by decide) (by intro i j x y _ h; simp at h))
  have hsl := (Array.getElem?_eq_some_iff.1 h.1).1
  have HH := Lib.hid h
  clear h
  have hn1 : (p < 1) = False := by simp; omega
  have hn2 : (1000 < p) = False := by simp; omega
  have hn3 : (a < 0) = False := by simp; omega
  go_enter Try.func7, Try.ntmps7
  go_wp2_with fail
  refine HF.out.mono ?_
  rintro e w2 ⟨n, hs, rfl, hb⟩
  have hn0 : n = 0 := by have := hs.le; simpa using this
  subst hn0
  have hff : foundAt [] id 0 = false := rfl
  rw [hff]
  have H2 := Lib.hid (HH.out.below hb)
  obtain ⟨c0, c1, f0, f1⟩ := H2.out.cells
  have HB2 := Lib.hid hb
  have hs2 := hb.size
  have HLIT := Lib.hid (Rd_lit w2 (oneA ⟨id, p, a⟩) 58 3 1 rfl (by decide))
  clear hs hb hff
  go_wp2_with fail
  refine (insert_nil w2.heap.size ⟨id, p, a⟩ (w2.alloc (.cells (oneA ⟨id, p, a⟩) 58)) HLIT.out).mono ?_
  rintro e w3 ⟨q, c, rfl, how, hb3⟩
  have hal : Below w2.heap.size w2 (w2.alloc (.cells (oneA ⟨id, p, a⟩) 58)) := (Below.refl _ _).alloc (Nat.le_refl _) _
  have hs3 : w2.heap.size ≤ (w2.alloc (.cells (oneA ⟨id, p, a⟩) 58)).heap.size := hal.size
  have hb23 : Below w2.heap.size w2 w3 := hal.trans (hb3.mono hs3)
  have hr3 : w3.heap[sb]? = some (.cells #[.int .i64 now, .slice none ([] : List One).length 0] 53 (0, 0)) := (hb23.block sb (by omega)).trans H2.out.1
  have f3 : w3.frozen? ⟨sb, 1, none⟩ = false := by simp [World.frozen?, hr3]
  have hsb3 : sb < w3.heap.size := (Array.getElem?_eq_some_iff.1 hr3).1
  have d3 : w3.cell? ⟨sb, 1, none⟩ = some (.slice none ([] : List One).length 0) := (cell_of_row _ _ _ _ _ _ hr3).trans rfl
  obtain ⟨w4, hw4⟩ : ∃ w4, w4 = w3.setCell ⟨sb, 1, none⟩ (.slice q 1 c) := ⟨_, rfl⟩
  have hr4 : w4.heap[sb]? = some (.cells #[.int .i64 now, .slice q 1 c] 53 (0, 0)) := by
    rw [hw4, setCell_eq_setRow w3 sb 1 _ _ _ _ hr3]
    exact setRow_heap w3 sb _ _ _ _ hr3
  have hg4 : w3.grownBy w4 (some sb) := by rw [hw4]; exact grown_setCell _ _ _ _
  have how3 : Ow w3 (sb + 1) 58 3 (.slice q 1 c) 1 (ones [⟨id, p, a⟩]) := how.base_le (by omega)
  have HO4 : Hid (Ow w4 (sb + 1) 58 3 (.slice q 1 c) 1 (ones [⟨id, p, a⟩])) := Lib.hid (how3.kp (Kp.of_grown hg4) (fun j hj e => by cases e; have := (how3.lt sb hj).1; omega))
  have HK4 : Hid (Kp (fun k => k = sb) w w4) := Lib.hid ((Kp.of_below (HB2.out.trans (hb23.mono hs2))).trans ((Kp.of_grown hg4).weak (fun k hk => by cases hk; rfl)) (fun _ _ h => h))
  have HS4 : Hid (SchedAt w4 sb (sb + 1) q c now [⟨id, p, a⟩]) := Lib.hid ⟨hr4, Nat.lt_succ_self _, HO4.out⟩
  have HW4 := Lib.hid hw4
  clear how hb3 hal hb23 hr3 hr4 hg4 how3 hw4 HO4
  go_wp2_with (rw [← HW4.out])
  go_ret
  exact ⟨q, c, rfl, HS4.out, HK4.out⟩
end Cad
end Go.Proofs.Ytmkoiddfkanmiaa

/- A part of the proof. Plain; no condition. -/
import Derived.Test.YtjkbpdobeljmjaaGreatDoorP13
import Derived.Test.YtjkbpdobeljmjaaGreatDoorP11
/- The walk of the schedule's Tick. -/
namespace Go.Proofs.YtjkbpdobeljmjaaGreatDoor
open Go.RowKit Bits Mem Sha
namespace Mem
theorem Kp.of_grown {w w' : World} {row : Option Nat} (h : w.grownBy w' row) : Kp (fun k => row = some k) w w' :=
  ⟨h.os, h.tape, h.output, h.size, fun k hk hn => h.block k hk (fun e => hn e.symm)⟩
theorem Kp.weak {S T : Nat → Prop} {w w' : World} (h : Kp S w w') (hT : ∀ k, S k → T k) : Kp T w w' := ⟨h.os, h.tape, h.output, h.size, fun k hk hn => h.block k hk (fun hs => hn (hT k hs))⟩
end Mem
namespace Cad
def strsC (T : List (List UInt8)) : List Value := T.map fun t => .string ⟨t.toArray⟩
theorem strsC_append (T U : List (List UInt8)) : strsC (T ++ U) = strsC T ++ strsC U := by simp [strsC]
theorem strsC_one (T : List (List UInt8)) : ∀ u ∈ strsC T, u.oneCell' = true := by
  intro u hu; simp [strsC] at hu; obtain ⟨x, _, rfl⟩ := hu; rfl
theorem infoStrC : (Tryz.prog.info? 9).map (fun i => (i.zero, i.size, i.bytes)) = some (some (.string ⟨#[]⟩), 1, 16) := by kernel_rfl
theorem parts3C {t : TypeId} {z : Value} {s b : Nat} (h : (Tryz.prog.info? t).map (fun i => (i.zero, i.size, i.bytes)) = some (some z, s, b)) : ∃ i0, Tryz.prog.info? t = some i0 ∧ i0.zero = some z ∧ i0.size = s ∧ i0.bytes = b := by
  obtain ⟨i0, h1, h2⟩ := Option.map_eq_some_iff.1 h
  have h2 := Prod.mk.inj h2
  have h3 := Prod.mk.inj h2.2
  exact ⟨i0, h1, h2.1, h3.1, h3.2⟩
theorem dues_len (L : List One) : (dues L).length ≤ L.length := by
  unfold dues
  rw [List.length_map]
  exact List.length_filter_le _ _
set_option maxRecDepth 100000 in
set_option maxHeartbeats 4000000 in
theorem tick_own (sb base : Nat) (q : Option Addr) (c : Nat) (now : Int) (L : List One) (w : World) (h : SchedAt w sb base q c now L) (hl : L.length ≤ 1000000) (hn0 : 0 ≤ now) (hn : now < 9223372036854775807)
    (hp : ∀ x ∈ L, 1 ≤ x.period ∧ x.period ≤ 1000 ∧ 0 ≤ x.age ∧ x.age ≤ 9223372036854775807) :
    Calls Tryz.prog 17 #[.pointer (some ⟨sb, 0, none⟩)] w fun e w' => ∃ qo co, e = .returned (.tuple #[.slice qo (dues L).length co, .int .i64 0]) ∧ SchedAt w' sb base q c (now + 1) (L.map tick1) ∧
      Ow w' w.heap.size 9 1 (.slice qo (dues L).length co) (dues L).length (strsC (dues L)) ∧ Kp (fun k => k = sb ∨ (Value.slice q L.length c).ownBlock = some k) w w' := by
  obtain ⟨i0, hi0, hz0, hz1, hz2⟩ := parts3C infoStrC
  obtain ⟨c0, c1, f0, f1⟩ := h.cells
  have HH := Lib.hid h
  have HP := Lib.hid hp
  have hsl := (Array.getElem?_eq_some_iff.1 h.1).1
  have hsb := h.2.1
  have hnI : (now == 9223372036854775807) = false := by rw [beq_eq_false_iff_ne]; omega
  obtain ⟨w1, hw1⟩ : ∃ w1, w1 = w.setCell ⟨sb, 0, none⟩ (.int .i64 (now + 1)) := ⟨_, rfl⟩
  have hr1 : w1.heap[sb]? = some (.cells #[.int .i64 (now + 1), .slice q L.length c] 104 (0, 0)) := by
    rw [hw1, setCell_eq_setRow w sb 0 _ _ _ _ h.1]
    exact setRow_heap w sb _ _ _ _ h.1
  have hg1 : w.grownBy w1 (some sb) := by rw [hw1]; exact grown_setCell _ _ _ _
  have hob : ∀ j, (Value.slice q L.length c).ownBlock = some j → j < w.heap.size := fun j hj => (h.2.2.lt j hj).2
  have HS1 := Lib.hid hr1
  have HO1 : Hid (Ow w1 base 133 3 (.slice q L.length c) L.length (ones L)) := Lib.hid (h.2.2.kp (Kp.of_grown hg1) (fun j hj e => by cases e; have := (h.2.2.lt sb hj).1; omega))
  have HK1 : Hid (Kp (fun j => j = sb ∨ (Value.slice q L.length c).ownBlock = some j) w w1) := Lib.hid ((Kp.of_grown hg1).weak (fun j hj => .inl (by cases hj; rfl)))
  have HGB := Lib.hid hob
  have HW1 := Lib.hid hw1
  have hs1 : w1.heap.size = w.heap.size := by rw [hw1]; simp [World.setCell]
  have c1' : w1.cell? ⟨sb, 1, none⟩ = some (.slice q L.length c) := (cell_of_row _ _ _ _ _ _ hr1).trans rfl
  clear h hp hr1 hg1 hob hw1
  go_enter Tryz.func17, Tryz.ntmps17
  go_wp2_with (rw [← HW1.out])
  go_loopw [4, 28] (fun ov iv wr => ∃ (k : Nat) (qo : Option Addr) (co : Nat) (O : List (List UInt8)), k ≤ L.length ∧ iv = .int .i64 k ∧ ov = .slice qo O.length co ∧ Hid (O = dues (L.take k)) ∧ Hid (wr.heap[sb]? = some (.cells #[.int .i64 (now + 1), .slice q L.length c] 104 (0, 0))) ∧ Hid (Ow wr base 133 3 (.slice q L.length c) L.length (ones (ticked k L))) ∧ Hid (Ow wr w.heap.size 9 1 (.slice qo O.length co) O.length (strsC O)) ∧ Hid (Kp (fun j => j = sb ∨ (Value.slice q L.length c).ownBlock = some j) w wr)) (fun _ iv _ => L.length - (intOf iv).toNat)
  case atStart => exact ⟨0, none, 0, [], Nat.zero_le _, rfl, rfl, Lib.hid rfl, HS1, Lib.hid (by simpa [ticked] using HO1.out), Lib.hid (Ow.nil _ _ _ _), HK1⟩
  case round =>
    obtain ⟨k, qo, co, O, hk, rfl, rfl, HOD, HSR, HOR, HPR, HKR⟩ := hrel
    by_cases hlt : k < L.length
    · have hkI : (k : Int) < (L.length : Int) := by omega
      obtain ⟨x, hx0⟩ : ∃ x, L[k]? = some x := ⟨_, List.getElem?_eq_getElem hlt⟩
      obtain ⟨g, rfl⟩ : ∃ g, q = some ⟨g, 0, none⟩ := by
        rcases HOR.out.2 with ⟨_, h0⟩ | ⟨g, cap, cur, fz, hv, _⟩
        · omega
        · injection hv with h1; exact ⟨g, h1⟩
      obtain ⟨p1, p2, p3, p4⟩ := HP.out x (List.mem_of_getElem? hx0)
      have hol : O.length ≤ k := by rw [HOD.out]; have := dues_len (L.take k); rw [List.length_take] at this; omega
      obtain ⟨r0, r1, r2, rf, rst⟩ := row_cells HOR.out (ticked_length _ _) (ticked_at hx0)
      have cs1 : wr.cell? ⟨sb, 1, none⟩ = some (.slice (some ⟨g, 0, none⟩) L.length c) := (cell_of_row _ _ _ _ _ _ HSR.out).trans rfl
      have HX := Lib.hid hx0
      have HTS := Lib.hid (ticked_succ hx0)
      have hkl : k < (ticked k L).length := by rw [ticked_length]; exact hlt
      by_cases hag : x.age < 9223372036854775807
      · obtain ⟨a', ha'⟩ : ∃ a', a' = x.age + 1 := ⟨_, rfl⟩
        obtain ⟨x', hx'⟩ : ∃ x', x' = ({ x with age := a' } : One) := ⟨_, rfl⟩
        obtain ⟨w2, hw2⟩ : ∃ w2, w2 = wr.setCell ⟨g, k * 3 + 2, none⟩ (.int .i64 (x.age + 1)) := ⟨_, rfl⟩
        have ht1 : tick1 x = x' := by rw [hx', ha']; unfold tick1; rw [if_pos hag]
        have HOY : Hid (Ow w2 base 133 3 (.slice (some ⟨g, 0, none⟩) L.length c) L.length (ones (ticked (k + 1) L))) := Lib.hid (by rw [HTS.out, ht1, hx', ha', hw2]; exact rst (x.age + 1))
        have HTX : Hid ((ticked (k + 1) L)[k]? = some { x with age := a' }) := Lib.hid (by rw [HTS.out, ht1, hx', List.getElem?_set_self hkl])
        have HDD : Hid (isDue x = (a' % x.period == 0)) := Lib.hid (by unfold isDue; rw [ht1, hx']; show (a'.tmod x.period == 0) = _; rw [Int.tmod_eq_emod_of_nonneg (by omega)])
        have hgr : wr.grownBy w2 (some g) := by rw [hw2]; exact grown_setCell _ _ _ _
        have hgs := HGB.out g rfl
        have hgb := (HOR.out.lt g rfl).1
        have HSY : Hid (w2.heap[sb]? = some (.cells #[.int .i64 (now + 1), .slice (some ⟨g, 0, none⟩) L.length c] 104 (0, 0))) := Lib.hid (((Kp.of_grown hgr).block sb (Array.getElem?_eq_some_iff.1 HSR.out).1 (fun e => by cases e; omega)).trans HSR.out)
        have HPY : Hid (Ow w2 w.heap.size 9 1 (.slice qo O.length co) O.length (strsC O)) := Lib.hid (HPR.out.kp (Kp.of_grown hgr) (fun j hj e => by cases e; have := (HPR.out.lt g hj).1; omega))
        have HKY : Hid (Kp (fun j => j = sb ∨ (Value.slice (some ⟨g, 0, none⟩) L.length c).ownBlock = some j) w w2) := Lib.hid (HKR.out.trans (Kp.of_grown hgr) (fun j _ h => .inr (by cases h; rfl)))
        have HW2 := Lib.hid hw2
        clear hx0 rst ht1 hx' hgr hw2
        go_wp2_with (rw [← HW2.out])
        have q1 : -9223372036854775808 ≤ a' := by omega
        have q2 : a' ≤ 9223372036854775807 := by omega
        have q3 : x.age + 1 = a' := ha'.symm
        have HOO' := HPY
        clear ha'
        obtain ⟨dP, dA, dF⟩ : (w2).cell? ⟨g, k * 3 + 1, none⟩ = some (.int .i64 x.period) ∧ (w2).cell? ⟨g, k * 3 + 2, none⟩ = some (.int .i64 a') ∧ (w2).cell? ⟨g, k * 3, none⟩ = some (.string ⟨x.id.toArray⟩) := by
          obtain ⟨r0, r1, r2, _, _⟩ := row_cells HOY.out (ticked_length _ _) HTX.out
          exact ⟨r1, r2, r0⟩
        have hgl := (HOY.out.lt g rfl).2
        have hp0 : ¬ x.period = 0 := by omega
        cases hd : (a' % x.period == 0) with
        | false =>
          have HDU : Hid (dues (L.take (k + 1)) = dues (L.take k)) := Lib.hid (by rw [dues_succ HX.out, if_neg (by rw [HDD.out]; simp [hd]), List.append_nil])
          refine Rc.region ((w2).heap.size) 10 [] [] (by kernel_rfl) (Nat.le_refl _) (by kernel_rfl) ?_; intro p; simp only [List.take, List.drop]
          iterate 10 (refine Rc.rK rfl rfl ?_; intro K hK; apply Exists.intro; refine ⟨?_, ?_⟩; (focus (intro x hx; have e1 := Rc.cell_le hx hgl dP; have e2 := Rc.cell_le hx hgl dA; go_simp; (first | (fail) | ((try go_bits); (try go_simp); (try rfl))))); go_simp; refine hK _ ?_; clear hK K)
          refine Rc.done fun wz Fs hx hle hg => ?_
          have hbz := Rc.undrew hx
          have HOZ := Lib.hid (HOY.out.below hbz)
          have HSZ := Lib.hid ((hbz.block sb (Array.getElem?_eq_some_iff.1 HSY.out).1).trans HSY.out)
          have HOO := Lib.hid (HPY.out.below hbz)
          have HKZ : Hid (Kp (fun j => j = sb ∨ (Value.slice (some ⟨g, 0, none⟩) L.length c).ownBlock = some j) w wz) := Lib.hid (HKY.out.trans (Kp.of_below hbz) (fun _ _ h => h))
          clear hx hle hg hbz dP dA dF hd
          go_wp2_with fail
          refine NoPanic.normal ?_
          go_wp2_with fail
          exact ⟨⟨k + 1, qo, co, O, by omega, by go_num, rfl, Lib.hid (by rw [HDU.out]; exact HOD.out), HSZ, HOZ, HOO, HKZ⟩, by simp [intOf]; omega⟩
        | true =>
          have HDU : Hid (dues (L.take (k + 1)) = dues (L.take k) ++ [x.id]) := Lib.hid (by rw [dues_succ HX.out, if_pos (by rw [HDD.out]; exact hd)])
          refine Rc.region ((w2).heap.size) 10 [] [] (by kernel_rfl) (Nat.le_refl _) (by kernel_rfl) ?_; intro p; simp only [List.take, List.drop]
          iterate 10 (refine Rc.rK rfl rfl ?_; intro K hK; apply Exists.intro; refine ⟨?_, ?_⟩; (focus (intro x hx; have e1 := Rc.cell_le hx hgl dP; have e2 := Rc.cell_le hx hgl dA; go_simp; (first | (fail) | ((try go_bits); (try go_simp); (try rfl))))); go_simp; refine hK _ ?_; clear hK K)
          refine Rc.done fun wz Fs hx hle hg => ?_
          have hbz := Rc.undrew hx
          have HOZ := Lib.hid (HOY.out.below hbz)
          have HSZ := Lib.hid ((hbz.block sb (Array.getElem?_eq_some_iff.1 HSY.out).1).trans HSY.out)
          have HOO := Lib.hid (HPY.out.below hbz)
          have HKZ : Hid (Kp (fun j => j = sb ∨ (Value.slice (some ⟨g, 0, none⟩) L.length c).ownBlock = some j) w wz) := Lib.hid (HKY.out.trans (Kp.of_below hbz) (fun _ _ h => h))
          have eF := Below.cell hbz (p := ⟨g, k * 3, none⟩) hgl |>.trans dF
          have hsz9 : w.heap.size ≤ wz.heap.size := HKZ.out.size
          have HLIT := Lib.hid (Rd_lit wz #[.string ⟨x.id.toArray⟩] 9 1 1 rfl (by decide))
          clear hx hle hg hbz dP dA dF hd
          go_wp2_with fail
          refine NoPanic.normal ?_
          go_wp2_with (at_builtin; go_must (refine app_ow rfl _ _ 83 83 rfl w.heap.size 9 i0 (.string ⟨#[]⟩) 1 16 Tryz.underlying83 hi0 hz0 hz1 hz2 (by rfl) _ O.length _ rfl (HOO.out.alloc _) _ 1 _ rfl (Rd.src Tryz.underlying83 HLIT.out (strsC_one [x.id])) (by unfold maxLen; omega) (by omega) (by simp; omega) ?_); go_must (intro v4 w4 how4 hg4); go_must (obtain ⟨q4, c4, rfl⟩ := Ow_form how4); go_must (refine Hid.out ?_))
          have hal : Below wz.heap.size wz (wz.alloc (.cells #[.string ⟨x.id.toArray⟩] 9)) := (Below.refl _ _).alloc (Nat.le_refl _) _
          have hg4 : (wz.alloc (.cells #[.string ⟨x.id.toArray⟩] 9)).grownBy w4 (Value.slice qo O.length co).ownBlock := hg4
          have hkp : Kp (fun j => (Value.slice qo O.length co).ownBlock = some j) wz w4 := (Kp.of_below (S := fun j => (Value.slice qo O.length co).ownBlock = some j) hal).trans (Kp.of_grown hg4) (fun _ _ h => h)
          have HO4 : Hid (Ow w4 w.heap.size 9 1 (.slice q4 (O ++ [x.id]).length c4) (O ++ [x.id]).length (strsC (O ++ [x.id]))) := Lib.hid (by rw [strsC_append, List.length_append]; exact how4)
          have HR4 : Hid (Ow w4 base 133 3 (.slice (some ⟨g, 0, none⟩) L.length c) L.length (ones (ticked (k + 1) L))) := Lib.hid (HOZ.out.kp hkp (fun j hj e => by have h1 := (HOO.out.lt j e).1; have h2 := HGB.out j hj; omega))
          have HS4 : Hid (w4.heap[sb]? = some (.cells #[.int .i64 (now + 1), .slice (some ⟨g, 0, none⟩) L.length c] 104 (0, 0))) := Lib.hid ((hkp.block sb (Array.getElem?_eq_some_iff.1 HSZ.out).1 (fun e => by have h1 := (HOO.out.lt sb e).1; omega)).trans HSZ.out)
          have HK4 : Hid (Kp (fun j => j = sb ∨ (Value.slice (some ⟨g, 0, none⟩) L.length c).ownBlock = some j) w w4) := Lib.hid ⟨hkp.os.trans HKZ.out.os, hkp.tape.trans HKZ.out.tape, hkp.output.trans HKZ.out.output, Nat.le_trans HKZ.out.size hkp.size, fun j hj hn => (hkp.block j (Nat.lt_of_lt_of_le hj HKZ.out.size) (fun e => by have := (HOO.out.lt j e).1; omega)).trans (HKZ.out.block j hj hn)⟩
          clear how4 hg4 hkp hal eF
          refine Lib.hid ?_
          have hon : O.length + 1 = (O ++ [x.id]).length := by simp
          rw [hon]
          clear hon
          go_wp2_with fail
          exact ⟨⟨k + 1, q4, c4, O ++ [x.id], by omega, by go_num, rfl, Lib.hid (by rw [HDU.out, HOD.out]), HS4, HR4, HO4, HK4⟩, by simp [intOf]; omega⟩
      · obtain ⟨a', ha'⟩ : ∃ a', a' = x.age := ⟨_, rfl⟩
        have ht1 : tick1 x = { x with age := a' } := by rw [ha']; unfold tick1; rw [if_neg hag]
        have HOY : Hid (Ow wr base 133 3 (.slice (some ⟨g, 0, none⟩) L.length c) L.length (ones (ticked (k + 1) L))) := Lib.hid (by
          rw [HTS.out, ht1, ha']
          have hs : (ticked k L).set k x = ticked k L := by
            refine List.ext_getElem? fun i => ?_
            rw [List.getElem?_set]
            by_cases e : k = i
            · subst e; rw [if_pos rfl, if_pos hkl, ticked_at hx0]
            · rw [if_neg e]
          rw [hs]
          exact HOR.out)
        have HTX : Hid ((ticked (k + 1) L)[k]? = some { x with age := a' }) := Lib.hid (by rw [HTS.out, ht1, List.getElem?_set_self hkl])
        have HDD : Hid (isDue x = (a' % x.period == 0)) := Lib.hid (by unfold isDue; rw [ht1]; show (a'.tmod x.period == 0) = _; rw [Int.tmod_eq_emod_of_nonneg (by omega)])
        have HSY := HSR
        have HPY := HPR
        have HKY := HKR
        clear hx0 rst ht1
        go_wp2_with fail
        have q1 : -9223372036854775808 ≤ a' := by omega
        have q2 : a' ≤ 9223372036854775807 := by omega
        have q3 : x.age = a' := ha'.symm
        clear ha'
        obtain ⟨dP, dA, dF⟩ : (wr).cell? ⟨g, k * 3 + 1, none⟩ = some (.int .i64 x.period) ∧ (wr).cell? ⟨g, k * 3 + 2, none⟩ = some (.int .i64 a') ∧ (wr).cell? ⟨g, k * 3, none⟩ = some (.string ⟨x.id.toArray⟩) := by
          obtain ⟨r0, r1, r2, _, _⟩ := row_cells HOY.out (ticked_length _ _) HTX.out
          exact ⟨r1, r2, r0⟩
        have hgl := (HOY.out.lt g rfl).2
        have hp0 : ¬ x.period = 0 := by omega
        cases hd : (a' % x.period == 0) with
        | false =>
          have HDU : Hid (dues (L.take (k + 1)) = dues (L.take k)) := Lib.hid (by rw [dues_succ HX.out, if_neg (by rw [HDD.out]; simp [hd]), List.append_nil])
          refine Rc.region ((wr).heap.size) 10 [] [] (by kernel_rfl) (Nat.le_refl _) (by kernel_rfl) ?_; intro p; simp only [List.take, List.drop]
          iterate 10 (refine Rc.rK rfl rfl ?_; intro K hK; apply Exists.intro; refine ⟨?_, ?_⟩; (focus (intro x hx; have e1 := Rc.cell_le hx hgl dP; have e2 := Rc.cell_le hx hgl dA; go_simp; (first | (fail) | ((try go_bits); (try go_simp); (try rfl))))); go_simp; refine hK _ ?_; clear hK K)
          refine Rc.done fun wz Fs hx hle hg => ?_
          have hbz := Rc.undrew hx
          have HOZ := Lib.hid (HOY.out.below hbz)
          have HSZ := Lib.hid ((hbz.block sb (Array.getElem?_eq_some_iff.1 HSY.out).1).trans HSY.out)
          have HOO := Lib.hid (HPY.out.below hbz)
          have HKZ : Hid (Kp (fun j => j = sb ∨ (Value.slice (some ⟨g, 0, none⟩) L.length c).ownBlock = some j) w wz) := Lib.hid (HKY.out.trans (Kp.of_below hbz) (fun _ _ h => h))
          clear hx hle hg hbz dP dA dF hd
          go_wp2_with fail
          refine NoPanic.normal ?_
          go_wp2_with fail
          exact ⟨⟨k + 1, qo, co, O, by omega, by go_num, rfl, Lib.hid (by rw [HDU.out]; exact HOD.out), HSZ, HOZ, HOO, HKZ⟩, by simp [intOf]; omega⟩
        | true =>
          have HDU : Hid (dues (L.take (k + 1)) = dues (L.take k) ++ [x.id]) := Lib.hid (by rw [dues_succ HX.out, if_pos (by rw [HDD.out]; exact hd)])
          refine Rc.region ((wr).heap.size) 10 [] [] (by kernel_rfl) (Nat.le_refl _) (by kernel_rfl) ?_; intro p; simp only [List.take, List.drop]
          iterate 10 (refine Rc.rK rfl rfl ?_; intro K hK; apply Exists.intro; refine ⟨?_, ?_⟩; (focus (intro x hx; have e1 := Rc.cell_le hx hgl dP; have e2 := Rc.cell_le hx hgl dA; go_simp; (first | (fail) | ((try go_bits); (try go_simp); (try rfl))))); go_simp; refine hK _ ?_; clear hK K)
          refine Rc.done fun wz Fs hx hle hg => ?_
          have hbz := Rc.undrew hx
          have HOZ := Lib.hid (HOY.out.below hbz)
          have HSZ := Lib.hid ((hbz.block sb (Array.getElem?_eq_some_iff.1 HSY.out).1).trans HSY.out)
          have HOO := Lib.hid (HPY.out.below hbz)
          have HKZ : Hid (Kp (fun j => j = sb ∨ (Value.slice (some ⟨g, 0, none⟩) L.length c).ownBlock = some j) w wz) := Lib.hid (HKY.out.trans (Kp.of_below hbz) (fun _ _ h => h))
          have eF := Below.cell hbz (p := ⟨g, k * 3, none⟩) hgl |>.trans dF
          have hsz9 : w.heap.size ≤ wz.heap.size := HKZ.out.size
          have HLIT := Lib.hid (Rd_lit wz #[.string ⟨x.id.toArray⟩] 9 1 1 rfl (by decide))
          clear hx hle hg hbz dP dA dF hd
          go_wp2_with fail
          refine NoPanic.normal ?_
          go_wp2_with (at_builtin; go_must (refine app_ow rfl _ _ 83 83 rfl w.heap.size 9 i0 (.string ⟨#[]⟩) 1 16 Tryz.underlying83 hi0 hz0 hz1 hz2 (by rfl) _ O.length _ rfl (HOO.out.alloc _) _ 1 _ rfl (Rd.src Tryz.underlying83 HLIT.out (strsC_one [x.id])) (by unfold maxLen; omega) (by omega) (by simp; omega) ?_); go_must (intro v4 w4 how4 hg4); go_must (obtain ⟨q4, c4, rfl⟩ := Ow_form how4); go_must (refine Hid.out ?_))
          have hal : Below wz.heap.size wz (wz.alloc (.cells #[.string ⟨x.id.toArray⟩] 9)) := (Below.refl _ _).alloc (Nat.le_refl _) _
          have hg4 : (wz.alloc (.cells #[.string ⟨x.id.toArray⟩] 9)).grownBy w4 (Value.slice qo O.length co).ownBlock := hg4
          have hkp : Kp (fun j => (Value.slice qo O.length co).ownBlock = some j) wz w4 := (Kp.of_below (S := fun j => (Value.slice qo O.length co).ownBlock = some j) hal).trans (Kp.of_grown hg4) (fun _ _ h => h)
          have HO4 : Hid (Ow w4 w.heap.size 9 1 (.slice q4 (O ++ [x.id]).length c4) (O ++ [x.id]).length (strsC (O ++ [x.id]))) := Lib.hid (by rw [strsC_append, List.length_append]; exact how4)
          have HR4 : Hid (Ow w4 base 133 3 (.slice (some ⟨g, 0, none⟩) L.length c) L.length (ones (ticked (k + 1) L))) := Lib.hid (HOZ.out.kp hkp (fun j hj e => by have h1 := (HOO.out.lt j e).1; have h2 := HGB.out j hj; omega))
          have HS4 : Hid (w4.heap[sb]? = some (.cells #[.int .i64 (now + 1), .slice (some ⟨g, 0, none⟩) L.length c] 104 (0, 0))) := Lib.hid ((hkp.block sb (Array.getElem?_eq_some_iff.1 HSZ.out).1 (fun e => by have h1 := (HOO.out.lt sb e).1; omega)).trans HSZ.out)
          have HK4 : Hid (Kp (fun j => j = sb ∨ (Value.slice (some ⟨g, 0, none⟩) L.length c).ownBlock = some j) w w4) := Lib.hid ⟨hkp.os.trans HKZ.out.os, hkp.tape.trans HKZ.out.tape, hkp.output.trans HKZ.out.output, Nat.le_trans HKZ.out.size hkp.size, fun j hj hn => (hkp.block j (Nat.lt_of_lt_of_le hj HKZ.out.size) (fun e => by have := (HOO.out.lt j e).1; omega)).trans (HKZ.out.block j hj hn)⟩
          clear how4 hg4 hkp hal eF
          refine Lib.hid ?_
          have hon : O.length + 1 = (O ++ [x.id]).length := by simp
          rw [hon]
          clear hon
          go_wp2_with fail
          exact ⟨⟨k + 1, q4, c4, O ++ [x.id], by omega, by go_num, rfl, Lib.hid (by rw [HDU.out, HOD.out]), HS4, HR4, HO4, HK4⟩, by simp [intOf]; omega⟩
    · have hkI : ¬ ((k : Int) < (L.length : Int)) := by omega
      obtain rfl : k = L.length := by omega
      go_wp2_with fail
      go_ret2
      have e4 : O = dues L := by rw [HOD.out, List.take_length]
      subst e4
      refine ⟨qo, co, rfl, ?_, HPR.out, HKR.out⟩
      have e1 : ticked L.length L = L.map tick1 := by unfold ticked; simp
      have e2 := HOR.out
      rw [e1] at e2
      refine ⟨?_, hsb, ?_⟩
      · rw [List.length_map]; exact HSR.out
      · rw [List.length_map]; exact e2
theorem tick_any (sb base : Nat) (q : Option Addr) (c : Nat) (now : Int) (L : List One) (w : World) (h : SchedAt w sb base q c now L) (hl : L.length ≤ 1000000) (hn0 : 0 ≤ now) (hn : now < 9223372036854775807)
    (hp : ∀ x ∈ L, 1 ≤ x.period ∧ x.period ≤ 1000 ∧ 0 ≤ x.age ∧ x.age ≤ 9223372036854775807) :
    Calls Tryz.prog 17 #[.pointer (some ⟨sb, 0, none⟩)] w fun e w' => ∃ qo co, e = .returned (.tuple #[.slice qo (dues L).length co, .int .i64 0]) ∧ SchedAt w' sb base q c (now + 1) (L.map tick1) ∧
      Rd w' 1 (.slice qo (dues L).length co) (dues L).length (strsC (dues L)) ∧ Kp (fun k => k = sb ∨ (Value.slice q L.length c).ownBlock = some k) w w' := by
  refine (tick_own sb base q c now L w h hl hn0 hn hp).mono ?_
  rintro e w' ⟨qo, co, rfl, h1, h2, h3⟩
  exact ⟨qo, co, rfl, h1, Rd.of_ow h2, h3⟩
end Cad
end Go.Proofs.YtjkbpdobeljmjaaGreatDoor

/- The walks of the tenants' comparison, New and find. -/
namespace Go.Proofs.YtjkbpdobeljmjaaGreatDoor
open Go.RowKit Bits Mem Sha Cad
namespace Ten
structure Ten where
  id : List UInt8
  state : Int
  place : Int
  dir : Option Addr
def tenA (x : Ten) : Array Value := #[.string ⟨x.id.toArray⟩, .int .i64 x.state, .int .i64 x.place, .pointer x.dir]
def tens (L : List Ten) : List Value := L.flatMap fun x => [.string ⟨x.id.toArray⟩, .int .i64 x.state, .int .i64 x.place, .pointer x.dir]
set_option maxRecDepth 100000 in
set_option maxHeartbeats 1000000 in
theorem newTab_any (n : Int) (h1 : 1 ≤ n) (h2 : n ≤ 8) (w : World) : Calls Tryz.prog 10 #[.int .i64 n] w fun e w' => e = .returned (.tuple #[.pointer (some ⟨w.heap.size, 0, none⟩), .int .i64 0]) ∧ w' = w.alloc (.cells #[.int .i64 n, .slice none 0 0] 101) := by
  have n1 : (n < 1) = False := by simp; omega
  have n2 : (8 < n) = False := by simp; omega
  go_enter Tryz.func10, Tryz.ntmps10
  go_wp2_with fail
  go_ret2
  exact ⟨rfl, rfl⟩
def TabAt (w : World) (sb base : Nat) (q : Option Addr) (c : Nat) (pl : Int) (L : List Ten) : Prop :=
  w.heap[sb]? = some (.cells #[.int .i64 pl, .slice q L.length c] 101 (0, 0)) ∧ sb < base ∧ Ow w base 138 4 (.slice q L.length c) L.length (tens L)
theorem TabAt.cells {w : World} {sb base : Nat} {q : Option Addr} {c : Nat} {now : Int} {L : List Ten} (h : TabAt w sb base q c now L) : w.cell? ⟨sb, 0, none⟩ = some (.int .i64 now) ∧ w.cell? ⟨sb, 1, none⟩ = some (.slice q L.length c) ∧ w.frozen? ⟨sb, 0, none⟩ = false ∧ w.frozen? ⟨sb, 1, none⟩ = false :=
  ⟨(cell_of_row _ _ _ _ _ _ h.1).trans rfl, (cell_of_row _ _ _ _ _ _ h.1).trans rfl, by simp [World.frozen?, h.1], by simp [World.frozen?, h.1]⟩
theorem TabAt.below {w w' : World} {sb base : Nat} {q : Option Addr} {c : Nat} {now : Int} {L : List Ten} (h : TabAt w sb base q c now L) (hb : Below w.heap.size w w') : TabAt w' sb base q c now L :=
  ⟨(hb.block sb (Array.getElem?_eq_some_iff.1 h.1).1).trans h.1, h.2.1, h.2.2.below hb⟩
theorem tens_get : ∀ (L : List Ten) (k : Nat) (x : Ten), L[k]? = some x → ∀ j, j < 4 → (tens L)[k * 4 + j]? = (tenA x).toList[j]?
  | [], _, _, h, _, _ => by simp at h
  | y :: L, 0, x, h, j, hj => by
    cases h
    unfold tens tenA
    rw [List.flatMap_cons, List.getElem?_append_left (by simp; omega)]
    simp
  | y :: L, k + 1, x, h, j, hj => by
    have := tens_get L k x (by simpa using h) j hj
    rw [← this]
    unfold tens
    rw [List.flatMap_cons, List.getElem?_append_right (by simp; omega)]
    congr 1
    simp
    omega
theorem infoTenS (x : Ten) : (Tryz.prog.info? 138).map (·.size) = some (tenA x).toList.length := by
  show _ = some 4
  kernel_rfl
theorem ten_load {w : World} {b off c : Nat} {L : List Ten} {k : Nat} {x : Ten} (h : Rd w 4 (.slice (some ⟨b, off, none⟩) L.length c) L.length (tens L)) (hx : L[k]? = some x) :
    (Instr.loadAt 138 (.pointer (some ⟨b, off + k * 4, none⟩))).run Tryz.prog w = .ok (.agg (tenA x)) w := by
  obtain ⟨b', off', he, _, _, _, hc⟩ := Rd_lt h (by have := (List.getElem?_eq_some_iff.1 hx).1; omega)
  cases he
  have := run_loadAt_mid (P := Tryz.prog) w b (off + k * 4) 138 (tenA x).toList _ (fun j u hu => by
    have hj := (List.getElem?_eq_some_iff.1 hu).1
    have hj4 : j < 4 := hj
    rw [Nat.add_assoc]
    exact hc _ u (by rw [tens_get L k x hx j hj4]; exact hu)) Tryz.underlying138 rfl (infoTenS x)
  simpa using this
end Ten
end Go.Proofs.YtjkbpdobeljmjaaGreatDoor


/- The walks of commit.number, bind, Check, and of the document's Open and Bound. -/
import Derived.Test.YtkembhonfehlbaaDoorL32
import Derived.Test.YtkembhonfehlbaaDoorMacR
import Derived.Test.YtkembhonfehlbaaDoorKeys
namespace Go.Proofs.YtkembhonfehlbaaDoor
open Go.RowKit Bits Mem Sha
namespace Ref
theorem Parts.of3 {w : World} {v x y z : Value} {a b c : List UInt8} (h : Rd w 1 v 3 [x, y, z]) (hx : ∃ q c, x = .slice q a.length c ∧ Rd w 1 (.slice q a.length c) a.length (bys a)) (hy : ∃ q c, y = .slice q b.length c ∧ Rd w 1 (.slice q b.length c) b.length (bys b)) (hz : ∃ q k, z = .slice q c.length k ∧ Rd w 1 (.slice q c.length k) c.length (bys c)) : Parts w v [a, b, c] := by
  refine ⟨[x, y, z], h, fun i hi => ?_⟩
  obtain ⟨q, k, rfl, hx⟩ := hx
  obtain ⟨q2, k2, rfl, hy⟩ := hy
  obtain ⟨q3, k3, rfl, hz⟩ := hz
  match i, hi with
  | 0, _ => exact ⟨_, _, rfl, hx⟩
  | 1, _ => exact ⟨_, _, rfl, hy⟩
  | 2, _ => exact ⟨_, _, rfl, hz⟩
set_option maxRecDepth 100000 in
set_option maxHeartbeats 4000000 in
theorem number_any (n : Int) (w : World) :
    Calls Tryd.prog 45 #[.int .i64 n] w fun e w' => ∃ v, e = .returned v ∧ Ow w' w.heap.size 5 1 v 8 (bys (eight n)) ∧ Below w.heap.size w w' := by
  have hwu := u64_wrap n
  obtain ⟨u, hu⟩ : ∃ u, u = u64 n := ⟨_, rfl⟩
  rw [← hu] at hwu
  have HU := Lib.hid hu
  clear hu
  obtain ⟨i0, hi, hz0, hz1, hz2⟩ := parts3 info1
  go_enter Tryd.func45, Tryd.ntmps45
  go_wp2_with (refine wpList_make_full _ rfl _ _ 23 rfl w.heap.size 5 i0 (.int .u8 0) 1 Tryd.underlying23 hi hz0 hz1 .i64 .i64 _ _ 8 rfl rfl rfl rfl (by rw [hz2]; omega) (by unfold maxLen; omega) (Nat.le_refl _) ?_; go_must (intro w1 hown hg1))
  have hrow1 := own_row hown
  rw [made_bys] at hrow1
  have hb1 : Below w.heap.size w w1 := below_of_grown hg1 (Nat.le_refl _) (fun k hk => by cases hk)
  have HB1 := Lib.hid hb1
  obtain ⟨g, hg⟩ : ∃ g, g = w.heap.size := ⟨_, rfl⟩
  rw [← hg] at hrow1
  have HRB1 := Lib.hid hrow1
  have HG := Lib.hid hg
  rw [← hg]
  clear hown hg1 hrow1 hb1 hg
  go_loopw [8] (fun i wr => ∃ j : Nat, j ≤ 8 ∧ i = .int .i64 j ∧ wr.heap[g]? = some (.cells (bysA (e8 u j)) 5 (0, 0)) ∧ Below w.heap.size w wr) (fun i _ => 8 - (intOf i).toNat)
  case atStart => exact ⟨0, by omega, rfl, by rw [e8_zero]; exact HRB1.out, HB1.out⟩
  case round =>
    obtain ⟨j, hj, rfl, hrb, hb⟩ := hrel
    have HRB := Lib.hid hrb
    by_cases hlt : j < 8
    · have hx := byte_at u j hlt
      have HSET := Lib.hid (e8_set u j hlt)
      obtain ⟨x, hxe⟩ : ∃ x, x = UInt8.ofNat (u / 2 ^ (8 * (7 - j))) := ⟨_, rfl⟩
      rw [← hxe] at hx HSET
      rw [show 56 - 8 * j = 8 * (7 - j) by omega] at hx
      have h7 : (0 : Int) ≤ 8 * (7 - (j : Int)) := by omega
      have ht : (8 * (7 - (j : Int))).toNat = 8 * (7 - j) := by omega
      have hel := e8_length u j hj
      have hc := cell_of_bys hrb (k := j) (by omega)
      have hf : wr.frozen? ⟨g, j, none⟩ = false := frozen_of_row _ _ _ _ _ hrb
      have q1 : (j : Int) < 8 := by omega
      clear hxe hrb hel
      go_wp2_with fail
      refine ⟨⟨j + 1, by omega, by go_num, ?_, ?_⟩, by simp [intOf]; omega⟩
      · rw [heap_setCell_same _ _ _ _ _ _ HRB.out, bysA_set, HSET.out]
      · exact hb.setCell (by have := HG.out; simp; omega) _
    · obtain rfl : j = 8 := by omega
      clear hrb
      go_wp2_with fail
      go_ret
      refine ⟨_, rfl, ⟨by rw [bys_length, eight_length], .inr ⟨g, 8, bysA (e8 u 8), (0, 0), rfl, by rw [HG.out]; exact Nat.le_refl _, HRB.out, fun j _ => by simp, Nat.le_refl _, by decide, by rw [bysA_size, e8_length u 8 (Nat.le_refl _)], ?_⟩⟩, hb⟩
      rw [e8_full]
      unfold eight
      rw [← HU.out]
      exact List.take_of_length_le (by simp [bysA, bys_length, be_length])
def bound (o ix : List UInt8) (n : Int) (v : List UInt8) : List UInt8 := hmac o (ix ++ (eight n ++ v))
theorem bound_length (o ix : List UInt8) (n : Int) (v : List UInt8) : (bound o ix n v).length = 32 := hmac_length _ _
set_option maxRecDepth 100000 in
set_option maxHeartbeats 4000000 in
theorem bind_any (o ix : List UInt8) (n : Int) (q : Option Addr) (c : Nat) (l : List UInt8) (w : World) (hS : Sha.Tabs w) (ho : o.length = 32) (hix : ix.length = 32) (hl : Rd w 1 (.slice q l.length c) l.length (bys l)) (h : l.length ≤ 1000000) :
    Calls Tryd.prog 46 #[.agg (bysA o), .agg (bysA ix), .int .i64 n, .slice q l.length c] w fun e w' => e = .returned (.agg (bysA (bound o ix n l))) ∧ Below w.heap.size w w' := by
  have HS := Lib.hid hS
  have HL := Lib.hid hl
  have HO := Lib.hid ho
  have HX := Lib.hid hix
  obtain ⟨wz, hwz⟩ : ∃ wz, wz = ((w.alloc (.cells (bysA o) 22)).alloc (.cells (bysA ix) 22)).alloc (.cells (bysA zeros32) 22) := ⟨_, rfl⟩
  have hbz : Below w.heap.size w wz := by rw [hwz]; exact (((Below.refl _ _).alloc (Nat.le_refl _) _).alloc (by simp) _).alloc (by simp; omega) _
  have hro : wz.heap[w.heap.size]? = some (.cells (bysA o) 22 (0, 0)) := by rw [hwz]; exact (Rg.heap_alloc_past _ _ _ (by simp; omega)).trans ((Rg.heap_alloc_past _ _ _ (by simp)).trans (Rg.heap_alloc_at w _ _ rfl))
  have hrx : wz.heap[w.heap.size + 1]? = some (.cells (bysA ix) 22 (0, 0)) := by rw [hwz]; exact (Rg.heap_alloc_past _ _ _ (by simp)).trans (Rg.heap_alloc_at _ _ _ (by simp))
  have hrz : wz.heap[w.heap.size + 1 + 1]? = some (.cells (bysA zeros32) 22 (0, 0)) := by rw [hwz]; exact Rg.heap_alloc_at _ _ _ (by simp)
  have HWZ := Lib.hid hwz
  have HBZ := Lib.hid hbz
  have HRO := Lib.hid hro
  have HRX := Lib.hid hrx
  have HRZ := Lib.hid hrz
  have HLZ := Lib.hid (hl.below hbz)
  have HNE := Lib.hid (show hmac o (ix ++ (eight n ++ l)) = bound o ix n l from rfl)
  have HBL := Lib.hid (bound_length o ix n l)
  obtain ⟨M, hM⟩ : ∃ M, M = bound o ix n l := ⟨_, rfl⟩
  rw [← hM] at HNE HBL
  have HME := Lib.hid hM
  have HIM : Hid ((Tryd.prog.info? 22).map (·.size) = some (bysA M).size) := Lib.hid (by rw [bysA_size, HBL.out]; exact info32)
  clear hS hl ho hix hwz hbz hro hrx hrz hM
  go_enter Tryd.func46, Tryd.ntmps46
  go_wp2_with fail
  rw [z32, ← HWZ.out]
  refine Rc.region (wz.heap.size) 7 [Rc.F 3 (fun p => .slice p.q 8 p.c) (fun p _ y => Rd y 1 (.slice p.q 8 p.c) 8 (bys (eight n))), ⟨5, [3], [], some (fun _ pj => .slice pj.q 3 3), fun p pj _ y => Rd y 1 (.slice pj.q 3 3) 3 [.slice (some ⟨w.heap.size + 1, 0, none⟩) 32 32, .slice (p 3).q 8 (p 3).c, .slice q l.length c]⟩, Rc.G 6 [3, 5] (fun _ => .agg (bysA M)) (fun _ _ _ => True)] [] (by kernel_rfl) (Nat.le_refl _) (by kernel_rfl) ?_; intro p; simp only [List.take_succ_cons, List.take_zero, List.take_nil, List.drop_succ_cons, List.drop_zero, List.drop_nil]
  iterate 3 (refine Rc.rK rfl rfl ?_; intro K hK; apply Exists.intro; refine ⟨?_, ?_⟩; (focus (intro x hx;  go_simp; (first | (fail) | ((try go_bits); (try go_simp); (try rfl))))); go_simp; refine hK _ ?_; clear hK K)
  refine Rc.fK rfl rfl rfl rfl ?_ ?_
  · intro x Fs hx hle hg K hK
    go_wp2_with fail
    refine (number_any n x).mono ?_
    rintro e x' ⟨v, rfl, hown, hb⟩
    obtain ⟨q', c', rfl⟩ := Ow_form hown
    go_wp2_with fail
    exact hK ⟨q', c', undef⟩ x' hb (fun F y hF hy => Rd.of_ow (OwF.fresh hown hle hF hy).1)
  intro K hK; go_simp; refine hK _ ?_; clear hK K
  iterate 1 (refine Rc.rK rfl rfl ?_; intro K hK; apply Exists.intro; refine ⟨?_, ?_⟩; (focus (intro x hx;  go_simp; (first | (fail) | ((try go_bits); (try go_simp); (try rfl))))); go_simp; refine hK _ ?_; clear hK K)
  refine Rc.fK rfl rfl rfl rfl ?_ ?_
  · intro x Fs hx hle hg K hK
    have hlit := Rd_lit x #[.slice (some ⟨w.heap.size + 1, 0, none⟩) 32 32, .slice (p 3).q 8 (p 3).c, .slice q l.length c] 23 1 3 rfl (by decide)
    go_wp2_with fail
    exact hK ⟨some ⟨x.heap.size, 0, none⟩, 3, undef⟩ _ ((Below.refl _ _).alloc (Nat.le_refl _) _) fun F y hF hy => hlit.keeps hy (fun k hk => .inr (by cases hk; exact hF _ (Nat.le_refl _) (by simp)))
  intro K hK; go_simp; refine hK _ ?_; clear hK K
  refine Rc.fK rfl rfl rfl rfl ?_ ?_
  · intro x Fs hx hle hg K hK
    have hbx := HBZ.out.trans ((Rc.undrew hx).mono HBZ.out.size)
    have h3 : Rd x 1 (.slice (p 3).q 8 (p 3).c) 8 (bys (eight n)) := hg.1
    have h5 : Rd x 1 (.slice (p 5).q 3 3) 3 [.slice (some ⟨w.heap.size + 1, 0, none⟩) 32 32, .slice (p 3).q 8 (p 3).c, .slice q l.length c] := hg.2.1
    have hrow := Rd_of_row (Rp.row_le (Rc.undrew hx) HRX.out) HX.out (by decide)
    have hpt : Parts x (.slice (p 5).q 3 3) [ix, eight n, l] := Parts.of3 h5 ⟨_, _, by rw [HX.out], by rw [HX.out]; exact hrow⟩ ⟨_, _, by rw [eight_length], by rw [eight_length]; exact h3⟩ ⟨_, _, rfl, HLZ.out.below (Rc.undrew hx)⟩
    have hkey := Rd_of_row (Rp.row_le (Rc.undrew hx) HRO.out) HO.out (by decide)
    have hof := of_any (some ⟨w.heap.size, 0, none⟩) 32 o _ _ [ix, eight n, l] x (HS.out.below hbx) (by rw [HO.out]; exact hkey) hpt (by simp [eight_length, HX.out]; omega) (by rw [HO.out]; omega)
    rw [HO.out, show [ix, eight n, l].flatten = ix ++ (eight n ++ l) by simp, HNE.out] at hof
    have HOF := Lib.hid hof
    clear hof hg h3 h5 hrow hpt hkey
    go_wp2_with fail
    refine HOF.out.mono ?_
    rintro e x' ⟨rfl, hb⟩
    go_wp2_with fail
    exact hK Rc.dflt x' hb (fun _ _ _ _ => trivial)
  intro K hK; go_simp; refine hK _ ?_; clear hK K
  refine Rc.done fun x Fs hx hle hg => ?_
  have HRZX := Lib.hid (Rp.row_le (Rc.undrew hx) HRZ.out)
  have HBX := Lib.hid (HBZ.out.trans ((Rc.undrew hx).mono HBZ.out.size))
  clear hx hle hg
  go_wp2_with (refine Rg.store_row rfl 22 _ _ rfl (w.heap.size + 1 + 1) rfl 22 (bysA zeros32) (bysA M) rfl HRZX.out HIM.out (by rw [bysA_size, bysA_size, HBL.out]; rfl) (bysA_one _) ?_)
  refine NoPanic.normal ?_
  go_wp2_with fail
  refine bodyPost_ret (v := .agg (bysA M)) (results_cell_row (P := Tryd.prog) rfl _ _ (w.heap.size + 1 + 1) 22 (bysA M) (0, 0) _ rfl (setRow_heap _ _ _ _ 22 _ HRZX.out) Tryd.underlying22 rfl HIM.out) rfl ⟨by rw [HME.out], ?_⟩
  exact Rg.below_setRow HBX.out (by omega) _
end Ref
end Go.Proofs.YtkembhonfehlbaaDoor

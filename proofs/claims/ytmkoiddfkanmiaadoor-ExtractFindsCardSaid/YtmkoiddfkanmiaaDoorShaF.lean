/- The walks of sha2: Sum of nil, Sum of parts. -/
import Derived.Test.YtmkoiddfkanmiaaDoorShaE
namespace Go.Proofs.YtmkoiddfkanmiaaDoor
open Go.RowKit Bits Mem
namespace Sha
theorem Rd_own_lt {w : World} {size : Nat} {v : Value} {n : Nat} {xs : List Value} (h : Rd w size v n xs) {k : Nat} (hk : v.ownBlock = some k) : k < w.heap.size := by
  rcases h.2 with ⟨rfl, _⟩ | ⟨b, off, cap, rfl, hb, _⟩
  · cases hk
  · cases hk; exact hb
/-- A slice of slices of bytes that reads as the list L. -/
def Parts (w : World) (v : Value) (L : List (List UInt8)) : Prop :=
  ∃ vs : List Value, Rd w 1 v L.length vs ∧ ∀ i, i < L.length → ∃ q c, vs[i]? = some (.slice q (L.getD i []).length c) ∧ Rd w 1 (.slice q (L.getD i []).length c) (L.getD i []).length (bys (L.getD i []))
theorem Parts.below {w w' : World} {v : Value} {L : List (List UInt8)} (h : Parts w v L) (hb : Below w.heap.size w w') : Parts w' v L := by
  obtain ⟨vs, h1, h2⟩ := h
  refine ⟨vs, h1.below hb, fun i hi => ?_⟩
  obtain ⟨q, c, e, hr⟩ := h2 i hi
  exact ⟨q, c, e, hr.below hb⟩
theorem flatten_take_succ (L : List (List UInt8)) (k : Nat) (h : k < L.length) : (L.take (k + 1)).flatten = (L.take k).flatten ++ L.getD k [] := by
  rw [List.take_succ_eq_append_getElem h, List.flatten_append]; simp [List.getD, h]
theorem flatten_take_le (L : List (List UInt8)) (k : Nat) (h : k < L.length) : (L.take k).flatten.length + (L.getD k []).length ≤ L.flatten.length := by
  have h1 := flatten_take_succ L k h
  have h2 : L.flatten = (L.take (k + 1)).flatten ++ (L.drop (k + 1)).flatten := by rw [← List.flatten_append, List.take_append_drop]
  rw [h2, h1]; simp only [List.length_append]; omega
set_option maxRecDepth 100000 in
set_option maxHeartbeats 1000000 in
theorem sum_nil (w : World) (hT : Tabs w) :
    Calls Tryd.prog 52 #[.pointer none] w fun e w' => e = .returned (.agg (bysA (sha []))) ∧ Below w.heap.size w w' := by
  go_enter Tryd.func52, Tryd.ntmps52
  go_wp2_with fail
  refine (new_any _ (hT.below ((Below.refl _ _).alloc (Nat.le_refl _) _))).mono ?_
  rintro e w1 ⟨hb, rfl, hh, hge, hb1⟩
  have hB : Below (w.heap.size + 1) (w.alloc (.cells (bysA zeros32) 42)) w1 := hb1.mono (by rw [World.size_alloc]; exact Nat.le_refl _)
  have hB' : Below w.heap.size w w1 := ((Below.refl w.heap.size w).alloc (Nat.le_refl _) _).trans (hB.mono (by omega))
  have hT1 := hT.below hB'
  have HT1 := Lib.hid hT1
  have HH := Lib.hid hh
  have HB := Lib.hid hB
  have HB' := Lib.hid hB'
  clear hT1 hh hge hb1 hB hB'
  go_wp2_with fail
  refine (sum_some hb [] _ HT1.out HH.out (by simp)).mono ?_
  rintro e w2 ⟨rfl, hb2⟩
  have hr : w2.heap[w.heap.size]? = some (.cells (bysA zeros32) 42 (0, 0)) := Rg.below_row hb2 (by have := HB.out.size; rw [World.size_alloc] at this; omega) (Rg.below_row HB.out (by omega) (Rg.heap_alloc_at _ _ _ rfl))
  have HR := Lib.hid hr
  have HI : Hid ((Tryd.prog.info? 42).map (·.size) = some (bysA (sha [])).size) := Lib.hid (by rw [bysA_size, sha_length]; exact info32)
  have HZ : Hid ((bysA zeros32).size = (bysA (sha [])).size) := Lib.hid (by rw [bysA_size, bysA_size, sha_length]; rfl)
  have HB2 := Lib.hid hb2
  clear hr hb2
  go_wp2_with (refine Rg.store_row rfl 42 _ _ rfl w.heap.size rfl 42 (bysA zeros32) (bysA (sha [])) rfl HR.out HI.out HZ.out (bysA_one _) ?_)
  refine bodyPost_ret (v := .agg (bysA (sha []))) (results_cell_row (P := Tryd.prog) rfl _ _ w.heap.size 42 (bysA (sha [])) (0, 0) _ rfl (setRow_heap _ _ _ _ 42 _ HR.out) Tryd.underlying42 rfl HI.out) rfl ⟨rfl, ?_⟩
  exact Rg.below_setRow (HB'.out.trans (HB2.out.mono HB'.out.size)) (Nat.le_refl _) _
set_option maxRecDepth 100000 in
set_option maxHeartbeats 1000000 in
theorem parts_any (q : Option Addr) (c : Nat) (L : List (List UInt8)) (w : World) (hT : Tabs w) (hp : Parts w (.slice q L.length c) L) (hsz : L.flatten.length ≤ 70368744177664) :
    Calls Tryd.prog 35 #[.slice q L.length c] w fun e w' => e = .returned (.agg (bysA (sha L.flatten))) ∧ Below w.heap.size w w' := by
  go_enter Tryd.func35, Tryd.ntmps35
  go_wp2_with fail
  refine (new_any _ (hT.below ((Below.refl _ _).alloc (Nat.le_refl _) _))).mono ?_
  rintro e w1 ⟨hb, rfl, hh, hge, hb1⟩
  have hB : Below (w.heap.size + 1) (w.alloc (.cells (bysA zeros32) 42)) w1 := hb1.mono (by rw [World.size_alloc]; exact Nat.le_refl _)
  have hB' : Below w.heap.size w w1 := ((Below.refl w.heap.size w).alloc (Nat.le_refl _) _).trans (hB.mono (by omega))
  have hge' : w.heap.size + 1 ≤ hb := by rw [World.size_alloc] at hge; exact hge
  have hr : w1.heap[w.heap.size]? = some (.cells (bysA zeros32) 42 (0, 0)) := Rg.below_row hB (by omega) (Rg.heap_alloc_at _ _ _ rfl)
  have HT1 := Lib.hid (hT.below hB')
  have HH := Lib.hid hh
  have HR := Lib.hid hr
  have HB' := Lib.hid hB'
  have hL : L.length ≤ 9223372036854775807 := by
    obtain ⟨vs, h1, _⟩ := hp
    rcases h1.2 with ⟨_, h0⟩ | ⟨_, _, cap, _, _, hnc, hcm, _⟩
    · omega
    · unfold maxLen at hcm; omega
  clear hh hb1 hB hB' hge hr
  go_wp2_with fail
  have HP := Lib.hid hp; clear hp
  go_loopw [9] (fun i wr => ∃ k : Nat, k ≤ L.length ∧ i = .int .i64 k ∧ HashAt wr hb (L.take k).flatten ∧ Below w.heap.size w wr ∧ wr.heap[w.heap.size]? = some (.cells (bysA zeros32) 42 (0, 0))) (fun i _ => L.length - (intOf i).toNat)
  case atStart => exact ⟨0, Nat.zero_le _, rfl, HH.out, HB'.out, HR.out⟩
  case round =>
    obtain ⟨k, hk, rfl, hhk, hbk, hrk⟩ := hrel
    have hTk := hT.below hbk
    have HTK := Lib.hid hTk; clear hTk
    have HHK := Lib.hid hhk; clear hhk
    have HRK := Lib.hid hrk; clear hrk
    by_cases hlt : k < L.length
    · obtain ⟨vs, hv0, hv2⟩ := HP.out
      have hv1 := hv0.below hbk
      obtain ⟨b, off, rfl, hbl, hnc, hcm, hcell⟩ := Rd_lt hv1 (by omega)
      obtain ⟨qk, ck, hvk, hrdk0⟩ := hv2 k hlt
      have hck := hcell k _ hvk
      have hrdk := hrdk0.below hbk
      have hqk : (Value.slice qk (L.getD k []).length ck).ownBlock ≠ some hb := fun e => by have := Rd_own_lt hrdk0 e; omega
      clear hv0 hrdk0
      have hlen := flatten_take_le L k hlt
      have hfs := flatten_take_succ L k hlt
      obtain ⟨X, hX⟩ : ∃ X, X = L.getD k [] := ⟨_, rfl⟩
      obtain ⟨Y, hY⟩ : ∃ Y, Y = (L.take k).flatten := ⟨_, rfl⟩
      rw [← hX, ← hY] at hlen hfs
      rw [← hX] at hck hrdk hqk
      rw [← hY] at HHK
      have HFS := Lib.hid hfs
      have HX := Lib.hid hX
      have HRDK := Lib.hid hrdk
      clear hfs hX hY hcell hv1 hv2 hvk hrdk
      go_wp2_with (go_at_call 51; go_must (refine (write_any hb Y X qk ck _ HTK.out HHK.out HRDK.out hqk (by omega)).mono ?_); rintro e w3 ⟨rfl, hh3, hg3⟩)
      have hlw : w.heap.size < wr.heap.size := lt_of_heap HRK.out
      refine ⟨⟨k + 1, by omega, rfl, ?_, ?_, ?_⟩, by simp [intOf]; omega⟩
      · rw [HFS.out]; exact hh3
      · exact hbk.trans (below_of_grown hg3 hbk.size (fun j hj => by have e' : hb = j := Option.some.inj hj; omega))
      · exact (hg3.block _ hlw (by intro e; have e' : w.heap.size = hb := Option.some.inj e; omega)).trans HRK.out
    · obtain rfl : k = L.length := by omega
      have HTAKE : Hid ((L.take L.length).flatten = L.flatten) := Lib.hid (by rw [List.take_of_length_le (Nat.le_refl _)])
      rw [HTAKE.out] at HHK
      have HI : Hid ((Tryd.prog.info? 42).map (·.size) = some (bysA (sha L.flatten)).size) := Lib.hid (by rw [bysA_size, sha_length]; exact info32)
      have HZ : Hid ((bysA zeros32).size = (bysA (sha L.flatten)).size) := Lib.hid (by rw [bysA_size, bysA_size, sha_length]; rfl)
      go_wp2_with fail
      refine (sum_some hb L.flatten _ HTK.out HHK.out hsz).mono ?_
      rintro e w2 ⟨rfl, hb2⟩
      have HB2 := Lib.hid hb2
      have HR2 := Lib.hid (Rg.below_row hb2 (lt_of_heap HRK.out) HRK.out)
      clear hb2
      go_wp2_with (refine Rg.store_row rfl 42 _ _ rfl w.heap.size rfl 42 (bysA zeros32) (bysA (sha L.flatten)) rfl HR2.out HI.out HZ.out (bysA_one _) ?_)
      refine bodyPost_ret (v := .agg (bysA (sha L.flatten))) (results_cell_row (P := Tryd.prog) rfl _ _ w.heap.size 42 (bysA (sha L.flatten)) (0, 0) _ rfl (setRow_heap _ _ _ _ 42 _ HR2.out) Tryd.underlying42 rfl HI.out) rfl ⟨rfl, ?_⟩
      exact Rg.below_setRow (hbk.trans (HB2.out.mono hbk.size)) (Nat.le_refl _) _
end Sha
end Go.Proofs.YtmkoiddfkanmiaaDoor

/- The walk of custumalref16.Texts, for the log. -/
import Derived.Test.YtkembhonfehlbaaDoorRfcS
namespace Go.Proofs.YtkembhonfehlbaaDoor
open Go.RowKit Bits Mem Sha
namespace Ref
/-- A part of a slice of [32]byte, as a slice of bytes. -/
theorem RdL.sub {w : World} {L : List (List UInt8)} {b off c k : Nat} (h : RdL w (.slice (some ⟨b, off, none⟩) L.length c) L) (hk : k < L.length) : Rd w 1 (.slice (some ⟨b, off + k * 32, none⟩) 32 32) 32 (bys (L.getD k [])) := by
  obtain ⟨b', off', he, hb, _, _, hc⟩ := Rd_lt h.2 (by omega)
  cases he
  have hl := h.1.getD hk
  refine ⟨by rw [bys_length, hl], .inr ⟨b, off + k * 32, 32, rfl, hb, Nat.le_refl _, by decide, fun j u hu => ?_⟩⟩
  have hj := (List.getElem?_eq_some_iff.1 hu).1
  rw [bys_length, hl] at hj
  rw [Nat.add_assoc]
  refine hc (k * 32 + j) u ?_
  rw [← hu]
  simp only [bys, List.getElem?_map]
  rw [flat_get k h.1 hk j hj]
set_option maxRecDepth 100000 in
set_option maxHeartbeats 4000000 in
theorem texts16_any (q : Option Addr) (c : Nat) (L : List (List UInt8)) (w : World) (hp : RdL w (.slice q L.length c) L) (hlen : L.length ≤ 1000000) :
    Calls Tryd.prog 34 #[.slice q L.length c] w fun e w' => ∃ v, e = .returned v ∧ Ow w' w.heap.size 9 1 v L.length (strs L) ∧ Below w.heap.size w w' := by
  obtain ⟨i0, hi, hz0, hz1, hz2⟩ := parts3 infoStr16
  have hcap := Rd_cap hp.2
  unfold maxLen at hcap
  have HP := Lib.hid hp
  clear hp
  go_enter Tryd.func34, Tryd.ntmps34
  go_wp2_with fail
  go_loopw [3, 4] (fun v i wr => ∃ (k : Nat) (q : Option Addr) (c : Nat), k ≤ L.length ∧ i = .int .i64 k ∧ v = .slice q k c ∧ Ow wr w.heap.size 9 1 (.slice q k c) k (strs (L.take k)) ∧ Below w.heap.size w wr) (fun _ i _ => L.length - (intOf i).toNat)
  case atStart => exact ⟨0, _, 0, Nat.zero_le _, rfl, rfl, Ow.lit w #[] 9 1 0 w.heap.size (Nat.le_refl _) (Nat.zero_le _) rfl, (Below.refl _ _).alloc (Nat.le_refl _) _⟩
  case round =>
    obtain ⟨k, qo, co, hk, rfl, rfl, hown, hb⟩ := hrel
    have HOWN := Lib.hid hown
    have HB := Lib.hid hb
    have hsz := hb.size
    have hcm := Rd_cap (Rd.of_ow hown)
    unfold maxLen at hcm
    clear hown hb
    by_cases hlt : k < L.length
    · have hltI : (k : Int) < L.length := by omega
      have HRL : Hid (RdL wr (.slice q L.length c) L) := Lib.hid (HP.out.below HB.out)
      obtain ⟨b, off, hqe, hbl, _, _, _⟩ := HRL.out.load hlt
      subst hqe
      have HSUB := Lib.hid (HRL.out.sub hlt)
      have HTK := Lib.hid (take_get k hlt)
      obtain ⟨X, hX⟩ : ∃ X, X = L.getD k [] := ⟨_, rfl⟩
      rw [← hX] at HSUB HTK
      clear hX
      have HLIT := Lib.hid (Rd_lit wr #[.string ⟨X.toArray⟩] 9 1 1 rfl (by decide))
      go_wp2_with (first | (refine conv_str rfl 23 9 _ rfl 5 Tryd.underlying9 Tryd.underlying23 Tryd.underlying5 _ 32 X rfl HSUB.out ?_) | (at_builtin; go_must (refine app_ow rfl _ _ 37 37 rfl w.heap.size 9 i0 (.string ⟨#[]⟩) 1 16 Tryd.underlying37 hi hz0 hz1 hz2 rfl _ _ _ rfl (HOWN.out.alloc _) _ _ _ rfl (Rd.src Tryd.underlying37 HLIT.out (fun u hu => by simp at hu; subst hu; rfl)) (by unfold maxLen; omega) (by omega) (by simp; omega) ?_); go_must (intro v3 w3 how3 hg3); go_must (obtain ⟨q3, c3, rfl⟩ := Ow_form how3)))
      have hg3 : (wr.alloc (.cells #[.string ⟨X.toArray⟩] 9)).grownBy w3 (Value.slice qo k co).ownBlock := hg3
      refine ⟨⟨k + 1, q3, c3, by omega, by go_num, rfl, ?_, ?_⟩, by simp [intOf]; omega⟩
      · rw [HTK.out, strs_append]; exact how3
      · exact (HB.out.alloc hsz _).grown hg3 (by simp; omega) (fun j hj => (HOWN.out.lt j hj).1)
    · obtain rfl : k = L.length := by omega
      go_wp2_with fail
      go_ret
      refine ⟨_, rfl, ?_, HB.out⟩
      have := HOWN.out
      rwa [List.take_of_length_le (Nat.le_refl _)] at this
end Ref
end Go.Proofs.YtkembhonfehlbaaDoor

/- The walks of package hmac. -/
import Derived.Test.YtmcjjionfmdioaaDoorSizes
import Derived.Test.YtmcjjionfmdioaaDoorPlan
import Derived.Test.YtmcjjionfmdioaaDoorMacP
import Derived.Laws.CopyOwn
namespace Go.Proofs.YtmcjjionfmdioaaDoor
open Go.RowKit Bits Mem Sha
namespace Ref
@[go_sem] theorem u8_xor (a b : UInt8) : bits .xor .u8 (a.toNat : Int) (b.toNat : Int) = ((a.toNat ^^^ b.toNat : Nat) : Int) := by
  have h1 := a.toNat_lt
  have h2 := b.toNat_lt
  show IntKind.u8.wrap ((BitVec.ofInt 8 (a.toNat : Int) ^^^ BitVec.ofInt 8 (b.toNat : Int)).toNat : Int) = _
  have e : (BitVec.ofInt 8 (a.toNat : Int) ^^^ BitVec.ofInt 8 (b.toNat : Int)).toNat = a.toNat ^^^ b.toNat := by
    rw [BitVec.toNat_xor, BitVec.ofInt_natCast, BitVec.ofInt_natCast, BitVec.toNat_ofNat, BitVec.toNat_ofNat, Nat.mod_eq_of_lt (by omega), Nat.mod_eq_of_lt (by omega)]
  have h3 : a.toNat ^^^ b.toNat < 2 ^ 8 := Nat.xor_lt_two_pow (by omega) (by omega)
  rw [e, IntKind.wrap_u8']
  omega
theorem bysA_set (l : List UInt8) (i : Nat) (x : UInt8) : (bysA l).setIfInBounds i (.int .u8 (x.toNat : Int)) = bysA (l.set i x) := by
  simp [bysA, bys, List.map_set]
theorem own_row {w : World} {base n : Nat} {g : Nat} {e : TypeId} {xs : List Value} (h : w.ownsRow base e 1 (.slice (some ⟨g, 0, none⟩) n n) n xs) : w.heap[g]? = some (.cells xs.toArray e (0, 0)) := by
  obtain ⟨hl, h⟩ := h
  rcases h with ⟨hv, _⟩ | ⟨g', cap, cur, hv, _, hg, _, _, hcs, ht⟩
  · cases hv
  · cases hv
    rw [hg]
    have : cur.toList = xs := by rw [← ht, List.take_of_length_le (by simp; omega)]
    rw [← this]
theorem infoU8 : (Tryd.prog.info? 5).map (·.size) = some 1 := by kernel_rfl
/-- copy into a row of the call's own that is known whole, from its head on: what its run gives (the walk takes it for a rule). -/
theorem run_copy_in {P : Program} {w : World} (T ty e : TypeId) (hu : P.underlying T = some (.slice e)) (hsz : (P.info? e).map (·.size) = some 1)
    (g dLen dCap : Nat) (q : Option Addr) (n c : Nat) (l : List UInt8) (cur : List Value) (t : TypeId)
    (hg : w.heap[g]? = some (.cells cur.toArray t (0, 0))) (hrd : Rd w 1 (.slice q n c) n (bys l)) (hle : n ≤ dLen) (hfit : n ≤ cur.length) :
    (Builtin.copy_ #[T, T] ty #[.slice (some ⟨g, 0, none⟩) dLen dCap, .slice q n c]).run P w = .ok (.int .i64 (n : Int)) (w.setRow g (bys l ++ cur.drop n).toArray) := by
  have hn := hrd.1
  rw [Nat.mul_one] at hn
  rcases Nat.eq_zero_or_pos n with h0 | h0
  · subst h0
    have hl : bys l = [] := List.eq_nil_of_length_eq_zero hn
    rw [run_copy_none (P := P) w T T ty e _ q dLen dCap 0 c hu hsz (by simp), hl]
    simp only [List.nil_append, List.drop_zero]
    rw [Rg.setRow_self hg]
    rfl
  · obtain ⟨b', off, hq, _, _, _, hcell⟩ := Rd_lt hrd h0
    subst hq
    have hm : (bys l).length = Nat.min n dLen := by rw [hn]; exact (Nat.min_eq_left hle).symm
    have := run_copy_row (P := P) w T T ty e g 0 dLen dCap ⟨b', off, none⟩ n c cur.toArray t (bys l) hu hsz hg hm (fun j v hj => by rw [addr_add]; exact hcell j v hj) (by rw [hn]; simpa using hfit) (bys_one l)
    rw [this, hn]
    simp [goInt]
theorem fill_row (l : List UInt8) : bys l ++ (bys (List.replicate 64 0)).drop l.length = bys (fill l) := by
  unfold fill
  rw [bys_append]
  congr 1
  unfold bys
  rw [← List.map_drop, List.drop_replicate]
set_option maxRecDepth 100000 in
set_option maxHeartbeats 4000000 in
theorem pad_any (q : Option Addr) (n c : Nat) (l : List UInt8) (b : UInt8) (w : World) (hn : l.length = n) (hl : Rd w 1 (.slice q n c) n (bys l)) (h64 : l.length ≤ 64) :
    Calls Tryd.prog 53 #[.slice q n c, .int .u8 (b.toNat : Int)] w fun e w' => ∃ g, e = .returned (.slice (some ⟨g, 0, none⟩) 64 64) ∧ w.heap.size ≤ g ∧ w'.heap[g]? = some (.cells (bysA (padk l b)) 5 (0, 0)) ∧ Below w.heap.size w w' := by
  obtain ⟨i0, hi, hz0, hz1, hz2⟩ := parts3 info1
  subst hn
  have HL := Lib.hid hl; clear hl
  go_enter Tryd.func53, Tryd.ntmps53
  go_wp2_with (refine wpList_make_full _ rfl _ _ 28 rfl w.heap.size 5 i0 (.int .u8 0) 1 Tryd.underlying28 hi hz0 hz1 .i64 .i64 _ _ 64 rfl rfl rfl rfl (by rw [hz2]; omega) (by unfold maxLen; omega) (Nat.le_refl _) ?_; go_must (intro w1 hown hg1))
  have hrow1 := own_row hown
  rw [made_bys] at hrow1
  have hb1 : Below w.heap.size w w1 := below_of_grown hg1 (Nat.le_refl _) (fun k hk => by cases hk)
  have hl1 := HL.out.below hb1
  have HR1 := Lib.hid hrow1
  clear hown hg1 hrow1
  have hrun := run_copy_in (P := Tryd.prog) 28 3 5 Tryd.underlying28 infoU8 w.heap.size 64 64 q l.length c l (bys (List.replicate 64 0)) 5 HR1.out hl1 h64 (by rw [bys_length, List.length_replicate]; omega)
  rw [fill_row] at hrun
  rw [hrun]
  go_wp2_with fail
  clear hrun
  have HB2 : Hid (Below w.heap.size w (w1.setRow w.heap.size (bys (fill l)).toArray)) := Lib.hid (Rg.below_setRow hb1 (Nat.le_refl _) _)
  have HR2 : Hid ((w1.setRow w.heap.size (bys (fill l)).toArray).heap[w.heap.size]? = some (.cells (bysA (padi l b 0)) 5 (0, 0))) := Lib.hid (by rw [padi_zero]; exact setRow_heap _ _ _ _ _ _ HR1.out)
  obtain ⟨w2, hw2⟩ : ∃ w2, w2 = w1.setRow w.heap.size (bys (fill l)).toArray := ⟨_, rfl⟩
  obtain ⟨g, hg⟩ : ∃ g, g = w.heap.size := ⟨_, rfl⟩
  have HGE : Hid (w.heap.size ≤ g) := Lib.hid (by omega)
  rw [← hw2, ← hg] at HR2
  rw [← hw2] at HB2
  rw [← hw2, ← hg]
  clear hl1 hb1 HR1 HL hw2 hg
  go_loopw [13] (fun i wr => ∃ k : Nat, k ≤ 64 ∧ i = .int .i64 k ∧ wr.heap[g]? = some (.cells (bysA (padi l b k)) 5 (0, 0)) ∧ Below w.heap.size w wr) (fun i _ => 64 - (intOf i).toNat)
  case atStart => exact ⟨0, by omega, rfl, HR2.out, HB2.out⟩
  case round =>
    obtain ⟨k, hk, rfl, hrow, hb⟩ := hrel
    have hlen := padi_length l b k h64
    by_cases hlt : k < 64
    · have c0 := Ref.cell_of_bys hrow (k := k) (by omega)
      rw [padi_at l b k h64 hlt] at c0
      have hset := padi_succ l b k h64 hlt
      obtain ⟨x, hx⟩ : ∃ x, x = bt (fill l) k := ⟨_, rfl⟩
      rw [← hx] at c0 hset
      have f0 : wr.frozen? ⟨g, k, none⟩ = false := frozen_of_row _ _ _ _ _ hrow
      have q1 : (k : Int) < 64 := by omega
      have HROW := Lib.hid hrow
      have HSET := Lib.hid hset
      clear hrow hset hx hlen
      go_wp2
      refine ⟨⟨k + 1, by omega, by go_num, ?_, ?_⟩, by simp [intOf]; omega⟩
      · rw [heap_setCell_same _ _ _ _ _ _ HROW.out, ← HSET.out, ← bysA_set, UInt8.toNat_xor]
      · exact hb.setCell HGE.out _
    · obtain rfl : k = 64 := by omega
      rw [padi_full l b h64] at hrow
      clear hlen
      have HROW := Lib.hid hrow
      clear hrow
      go_wp2
      go_ret
      exact ⟨g, rfl, HGE.out, HROW.out, hb⟩
end Ref
end Go.Proofs.YtmcjjionfmdioaaDoor

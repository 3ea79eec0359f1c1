/- A part of the proof. Plain; no condition. -/
import Derived.Test.YtjkbpdobeljmjaaGreatDoorP0
import Derived.Deep.Draws
import Derived.Lib.Hide
import Derived.Deep.LoopGhost
import Derived.Deep.DeepFit
import Derived.KernelRfl
/- Walks of sha2.small, big, spread. -/
namespace Go.Proofs.YtjkbpdobeljmjaaGreatDoor
open Go.RowKit Bits
namespace Sha
set_option maxRecDepth 100000 in
set_option maxHeartbeats 400000 in
theorem big_any (x : BitVec 32) (p q r : Int) (w : World) (hp : 0 < p) (hp' : p < 32) (hq : 0 < q) (hq' : q < 32) (hr : 0 < r) (hr' : r < 32) :
    Calls Tryz.prog 232 #[.int .u32 (n32 x), .int .i64 p, .int .i64 q, .int .i64 r] w fun e w' => e = .returned (.int .u32 (n32 (bg x p.toNat q.toNat r.toNat))) ∧ w = w' := by
  obtain ⟨p, rfl⟩ := Int.eq_ofNat_of_zero_le (Int.le_of_lt hp)
  obtain ⟨q, rfl⟩ := Int.eq_ofNat_of_zero_le (Int.le_of_lt hq)
  obtain ⟨r, rfl⟩ := Int.eq_ofNat_of_zero_le (Int.le_of_lt hr)
  simp only [Int.toNat_natCast]
  go_enter Tryz.func232, Tryz.ntmps232
  go_wp2_with (go_at_call 263; refine (turn_any _ _ _ (by omega) (by omega)).mono ?_; rintro e w' ⟨rfl, rfl⟩)
  go_ret
  exact ⟨rfl, rfl⟩
set_option maxRecDepth 100000 in
set_option maxHeartbeats 400000 in
theorem small_any (x : BitVec 32) (p q r : Int) (w : World) (hp : 0 < p) (hp' : p < 32) (hq : 0 < q) (hq' : q < 32) (hr : 0 < r) (hr' : r < 32) :
    Calls Tryz.prog 262 #[.int .u32 (n32 x), .int .i64 p, .int .i64 q, .int .i64 r] w fun e w' => e = .returned (.int .u32 (n32 (sml x p.toNat q.toNat r.toNat))) ∧ ∃ m, w' = w.drewN m := by
  obtain ⟨p, rfl⟩ := Int.eq_ofNat_of_zero_le (Int.le_of_lt hp)
  obtain ⟨q, rfl⟩ := Int.eq_ofNat_of_zero_le (Int.le_of_lt hq)
  obtain ⟨r, rfl⟩ := Int.eq_ofNat_of_zero_le (Int.le_of_lt hr)
  simp only [Int.toNat_natCast]
  go_enter Tryz.func262, Tryz.ntmps262
  go_wp2_with fail
  go_quiet ((go_at_call 263; exact Calls.quiet_of_same ((turn_any _ _ _ (by omega) (by omega)).mono fun _ _ h => ⟨h.1, h.2.symm⟩)))
  go_wp2
  go_ret
  exact ⟨rfl, _, rfl⟩
def cells (A : List (BitVec 32)) : Array Value := (A.map fun x => Value.int .u32 (n32 x)).toArray
theorem cells_get (A : List (BitVec 32)) (j : Nat) (h : j < A.length) : (cells A)[j]? = some (.int .u32 (n32 (rd A j))) := by
  simp [cells, rd, List.getD, h]
theorem cells_size (A : List (BitVec 32)) : (cells A).size = A.length := by simp [cells]
theorem cells_one (A : List (BitVec 32)) : (cells A).all (·.oneCell') = true := by
  rw [Array.all_eq_true_iff_forall_mem]; intro v hv; simp [cells] at hv; obtain ⟨x, _, rfl⟩ := hv; rfl
theorem cells_set (A : List (BitVec 32)) (j : Nat) (x : BitVec 32) : (cells A).setIfInBounds j (.int .u32 (n32 x)) = cells (A.set j x) := by
  simp [cells, List.map_set]
@[go_sem] theorem by32_wrap (b : UInt8) : IntKind.u32.wrap (b.toNat : Int) = n32 (by32 b) := by
  have := b.toNat_lt
  rw [IntKind.wrap_u32']; unfold n32 by32; rw [BitVec.toNat_ofNat]; omega
@[go_sem] theorem by32_mod (b : UInt8) : (b.toNat : Int) % 4294967296 = n32 (by32 b) := by
  have := by32_wrap b; rw [IntKind.wrap_u32'] at this; exact this
def zeros64 : List (BitVec 32) := List.replicate 64 0
theorem cells_zero : cells zeros64 = Array.replicate 64 (.int .u32 0) := by kernel_rfl
theorem info64 : (Tryz.prog.info? 356).map (·.size) = some 64 := by kernel_rfl
set_option maxRecDepth 100000 in
set_option maxHeartbeats 400000 in
set_option maxRecDepth 100000 in
theorem spread_any (l : List UInt8) (b off len cap : Nat) (w : World) (hl : 64 ≤ l.length) (hlen : l.length = len) (hcap : len ≤ cap) (hm : cap ≤ 9223372036854775807)
    (hc : ∀ k, k < len → w.cell? ⟨b, off + k, none⟩ = some (.int .u8 ((bt l k).toNat : Int))) :
    Calls Tryz.prog 231 #[.slice (some ⟨b, off, none⟩) len cap] w fun e w' => e = .returned (.agg (cells (spread l))) ∧ Below w.heap.size w w' := by
  have h64 : 64 ≤ len := by omega
  have h64' : 64 ≤ cap := by omega
  have H1 := Lib.hid hlen; clear hlen
  have H2 := Lib.hid hc; clear hc
  go_enter Tryz.func231, Tryz.ntmps231
  go_wp2
  go_loopw [9] (fun i wr => ∃ k : Nat, k ≤ 64 ∧ i = .int .i64 k ∧ ∃ n, wr = ((w.alloc (.cells (cells zeros64) 356)).alloc (.cells (cells (spread1 l k)) 356)).drewN n) (fun i _ => 64 - (intOf i).toNat)
  case atStart => exact ⟨0, by omega, rfl, 0, by rw [show spread1 l 0 = zeros64 from rfl, cells_zero]; rfl⟩
  case round =>
    obtain ⟨k, hk, rfl, n, rfl⟩ := hrel
    by_cases hlt : k < 64
    · have hcell := H2.out k (by omega)
      have hrd := cells_get (spread1 l k) (k / 4) (by rw [spread1_length]; omega)
      have hb : b < w.heap.size := World.block_lt_of_cell? _ _ hcell
      go_wp2
      have q1 : (0 : Int) ≤ (k : Int) / 4 := by omega
      have q2 : (k : Int) / 4 < 64 := by omega
      have q3 : (k : Int) < (len : Int) := by omega
      have q4 : ((k : Int) / 4).toNat = k / 4 := by omega
      have q5 : k / 4 < 64 := by omega
      refine Rg.tail (fun w' => ∃ n, w' = ((w.alloc (.cells (cells zeros64) 356)).alloc (.cells (cells (spread1 l k)) 356)).drewN n) 14 (by kernel_rfl) (by kernel_rfl) ⟨n + 1, rfl⟩ ?_; simp only [List.take_succ_cons, List.take_zero, List.drop_succ_cons, List.drop_zero]
      repeat (refine Rg.stepK rfl ?_; intro K hK; apply Exists.intro; refine ⟨?_, ?_⟩; (focus (intro w' hw'; obtain ⟨nq, rfl⟩ := hw'; go_simp; (first | (fail) | ((try go_bits); (try go_simp); (try rfl))))); go_simp; refine hK _ ?_; clear hK K)
      refine wpQuiet_nil ?_; intro w' hw'; obtain ⟨nq, rfl⟩ := hw'
      go_wp2
      go_roundw
      case rel => exact ⟨k + 1, by omega, by go_num, nq, by simp only [spread1]; rw [← cells_set]⟩
      case measure => simp [intOf]; omega
    · obtain rfl : k = 64 := by omega
      rw [show ((64 : Nat) : Int) = 64 from rfl]
      go_wp2
      obtain ⟨A0, hA0⟩ : ∃ A, A = spread1 l 64 := ⟨_, rfl⟩
      have hL0 : A0.length = 64 := by rw [hA0, spread1_length]
      have HA := Lib.hid hA0
      rw [← hA0]
      clear hA0
      go_loopw [5] (fun i wr => ∃ k : Nat, k ≤ 48 ∧ i = .int .i64 (16 + k) ∧ ∃ n, wr = ((w.alloc (.cells (cells zeros64) 356)).alloc (.cells (cells (spread2 A0 k)) 356)).drewN n) (fun i _ => 64 - (intOf i).toNat)
      case atStart => exact ⟨0, by omega, rfl, n, rfl⟩
      case round =>
        obtain ⟨k, hk, rfl, n, rfl⟩ := hrel
        by_cases hlt : k < 48
        · have hL : (spread2 A0 k).length = 64 := by rw [spread2_length]; exact hL0
          have hrd1 := cells_get (spread2 A0 k) k (by omega)
          have hrd2 := cells_get (spread2 A0 k) (k + 1) (by omega)
          have hrd3 := cells_get (spread2 A0 k) (k + 9) (by omega)
          have hrd4 := cells_get (spread2 A0 k) (k + 14) (by omega)
          have hrd5 := cells_get (spread2 A0 k) (16 + k) (by omega)
          have e1 : IntKind.i64.wrap (16 + (k : Int) - 16) = (k : Int) := by rw [IntWalk.i64_in _ (by omega)]; omega
          have e2 : IntKind.i64.wrap (16 + (k : Int) - 15) = (k : Int) + 1 := by rw [IntWalk.i64_in _ (by omega)]; omega
          have e3 : IntKind.i64.wrap (16 + (k : Int) - 7) = (k : Int) + 9 := by rw [IntWalk.i64_in _ (by omega)]; omega
          have e4 : IntKind.i64.wrap (16 + (k : Int) - 2) = (k : Int) + 14 := by rw [IntWalk.i64_in _ (by omega)]; omega
          have f1 : (k : Int) < 64 ∧ (k : Int) + 1 < 64 ∧ (k : Int) + 9 < 64 ∧ (k : Int) + 14 < 64 := by omega
          have f2 : (0 : Int) ≤ (k : Int) + 1 ∧ (0 : Int) ≤ (k : Int) + 9 ∧ (0 : Int) ≤ (k : Int) + 14 := by omega
          have f3 : ((k : Int) + 1).toNat = k + 1 ∧ ((k : Int) + 9).toNat = k + 9 ∧ ((k : Int) + 14).toNat = k + 14 := by omega
          have f5 : (0 : Int) ≤ 16 + (k : Int) := by omega
          have f6 : (16 + (k : Int)).toNat = 16 + k := by omega
          go_wp2
          refine Rg.tail (fun w' => ∃ n, w' = ((w.alloc (.cells (cells zeros64) 356)).alloc (.cells (cells (spread2 A0 k)) 356)).drewN n) 23 (by kernel_rfl) (by kernel_rfl) ⟨n + 1, rfl⟩ ?_; simp only [List.take_succ_cons, List.take_zero, List.drop_succ_cons, List.drop_zero]
          repeat (refine Rg.stepK rfl ?_; intro K hK; apply Exists.intro; refine ⟨?_, ?_⟩; (focus (intro w' hw'; obtain ⟨nq, rfl⟩ := hw'; go_simp; (first | (go_at_call 262; exact Calls.quiet_of (small_any _ _ _ _ _ (by omega) (by omega) (by omega) (by omega) (by omega) (by omega))) | ((try go_bits); (try go_simp); (try rfl))))); go_simp; refine hK _ ?_; clear hK K)
          refine wpQuiet_nil ?_; intro w' hw'; obtain ⟨nq, rfl⟩ := hw'
          go_wp2
          go_roundw
          case rel => exact ⟨k + 1, by omega, by go_num, nq, by simp only [spread2, next1]; rw [← cells_set]⟩
          case measure => simp [intOf]; omega
        · obtain rfl : k = 48 := by omega
          have hL : (spread2 A0 48).length = 64 := by rw [spread2_length]; exact hL0
          have hi : (Tryz.prog.info? 356).map (·.size) = some (cells (spread2 A0 48)).size := by rw [cells_size, hL]; exact info64
          have hz : (cells zeros64).size = (cells (spread2 A0 48)).size := by rw [cells_size, cells_size, hL]; rfl
          have HF : Hid (spread l = spread2 A0 48) := by rw [HA.out]; exact Lib.hid rfl
          have H3 := Lib.hid hi; clear hi
          have H4 := Lib.hid hz; clear hz
          generalize hB : spread2 A0 48 = B at *
          clear hB hL
          go_wp2_with (first | (refine wpList_load_row rfl 356 _ rfl (w.heap.size + 1) rfl 356 (cells B) (0, 0) _ (by exact Rg.heap_alloc_at _ _ _ (by simp)) Tryz.underlying356 rfl H3.out ?_) | (refine Rg.store_row rfl 356 _ _ rfl w.heap.size rfl 356 (cells zeros64) (cells B) rfl (by exact (Rg.heap_alloc_past _ _ _ (by simp)).trans (Rg.heap_alloc_at _ _ _ rfl)) H3.out H4.out (cells_one _) ?_))
          refine bodyPost_ret (v := .agg (cells B)) (results_cell_row (P := Tryz.prog) rfl _ _ w.heap.size 356 (cells B) (0, 0) _ rfl (setRow_heap _ _ (cells zeros64) _ 356 _ ((Rg.heap_alloc_past _ _ _ (by simp)).trans (Rg.heap_alloc_at _ _ _ rfl))) Tryz.underlying356 rfl H3.out) rfl ⟨by rw [HF.out], ?_⟩
          exact Rg.below_setRow (Rg.below_drewN (((Below.refl _ _).alloc (Nat.le_refl _) _).alloc (by simp) _) _) (Nat.le_refl _) _
end Sha
end Go.Proofs.YtjkbpdobeljmjaaGreatDoor

/- The walk of sha2.press. -/
namespace Go.Proofs.YtjkbpdobeljmjaaGreatDoor
open Go.RowKit Bits
namespace Sha
structure Tabs (w : World) : Prop where
  start : ∃ t f, w.heap[(3 : Nat)]? = some (.cells (cells HH) t f)
  rounds : ∃ t f, w.heap[(6 : Nat)]? = some (.cells (cells KK) t f)
theorem lt_of_heap {w : World} {g : Nat} {o : Obj} (h : w.heap[g]? = some o) : g < w.heap.size := (Array.getElem?_eq_some_iff.1 h).1
theorem Tabs.lt1 {w : World} (h : Tabs w) : (3 : Nat) < w.heap.size := by obtain ⟨_, _, h⟩ := h.start; exact lt_of_heap h
theorem Tabs.lt2 {w : World} (h : Tabs w) : (6 : Nat) < w.heap.size := by obtain ⟨_, _, h⟩ := h.rounds; exact lt_of_heap h
theorem Tabs.below {w w' : World} (h : Tabs w) (hb : Below w.heap.size w w') : Tabs w' := by
  obtain ⟨t, f, h1⟩ := h.start
  obtain ⟨t', f', h2⟩ := h.rounds
  exact ⟨⟨t, f, Rg.below_row hb h.lt1 h1⟩, ⟨t', f', Rg.below_row hb h.lt2 h2⟩⟩
theorem info8 : (Tryz.prog.info? 297).map (·.size) = some 8 := by kernel_rfl
set_option maxRecDepth 100000 in
set_option maxHeartbeats 1000000 in
theorem press_any (H : List (BitVec 32)) (l : List UInt8) (b off len cap : Nat) (w : World) (hH : H.length = 8) (hT : Tabs w) (hl : 64 ≤ l.length) (hlen : l.length = len) (hcap : len ≤ cap) (hm : cap ≤ 9223372036854775807)
    (hc : ∀ k, k < len → w.cell? ⟨b, off + k, none⟩ = some (.int .u8 ((bt l k).toNat : Int))) :
    Calls Tryz.prog 165 #[.agg (cells H), .slice (some ⟨b, off, none⟩) len cap] w fun e w' => e = .returned (.agg (cells (press H l))) ∧ Below w.heap.size w w' := by
  have hb : b < w.heap.size := World.block_lt_of_cell? _ _ (hc 0 (by omega))
  have H1 := Lib.hid hlen
  have H2 := Lib.hid hc; clear hc
  have HL := Lib.hid hH
  go_enter Tryz.func165, Tryz.ntmps165
  go_wp2_with fail
  refine (spread_any l b off len cap _ hl hlen hcap hm ?_).mono ?_
  · intro k hk
    rw [World.cell?_alloc_past _ _ _ (by simp; omega), World.cell?_alloc_past _ _ _ hb]
    exact H2.out k hk
  · rintro e w1 ⟨rfl, hB1⟩
    have g0 := Rg.below_row hB1 (g := w.heap.size) (by simp; omega) ((Rg.heap_alloc_past _ _ _ (by simp)).trans (Rg.heap_alloc_at _ _ _ rfl))
    have g1 := Rg.below_row hB1 (g := w.heap.size + 1) (by simp) (Rg.heap_alloc_at _ _ _ (by simp))
    have z1 : w.heap.size + 1 < w1.heap.size := by have := hB1.size; simp at this; omega
    have hBw : Below w.heap.size w w1 := (((Below.refl _ _).alloc (Nat.le_refl _) _).alloc (by simp) _).trans (hB1.mono (by simp; omega))
    have hT1 := hT.below hBw
    have hi64 : (Tryz.prog.info? 356).map (·.size) = some (cells (spread l)).size := by rw [cells_size, spread_length]; exact info64
    have hi8 : (Tryz.prog.info? 297).map (·.size) = some (cells H).size := by rw [cells_size, hH]; exact info8
    have hz64 : (cells zeros64).size = (cells (spread l)).size := by rw [cells_size, cells_size, spread_length]; rfl
    have hz8 : (#[Value.int .u32 0, .int .u32 0, .int .u32 0, .int .u32 0, .int .u32 0, .int .u32 0, .int .u32 0, .int .u32 0] : Array Value).size = (cells H).size := by rw [cells_size, hH]; rfl
    have HI64 := Lib.hid hi64; clear hi64
    have HI8 := Lib.hid hi8; clear hi8
    have HZ64 := Lib.hid hz64; clear hz64
    have HZ8 := Lib.hid hz8; clear hz8
    have G0 := Lib.hid g0; clear g0
    have G1 := Lib.hid g1; clear g1
    clear hB1
    generalize hS : spread l = S at *
    have HS := Lib.hid hS; clear hS
    go_wp2_with (first | (refine Rg.store_row_new rfl 356 _ _ rfl w1.heap.size rfl rfl 356 (cells zeros64) (cells S) rfl HI64.out HZ64.out (cells_one _) ?_) | (refine wpList_load_row rfl 297 _ rfl w.heap.size rfl 297 (cells H) (0, 0) _ (by exact (Rg.heap_alloc_past _ _ _ (by omega)).trans G0.out) Tryz.underlying297 rfl HI8.out ?_) | (refine Rg.store_row_new rfl 297 _ _ rfl (w1.heap.size + 1) (by simp) rfl 297 _ (cells H) rfl HI8.out HZ8.out (cells_one _) ?_))
    have hSL : S.length = 64 := by rw [← HS.out, spread_length]
    obtain ⟨tK, fK, hKrow⟩ := hT1.rounds
    have HK : Hid (∀ k, k < 64 → w1.cell? ⟨(6 : Nat), k, none⟩ = some (.int .u32 (n32 (rd KK k)))) := Lib.hid (fun k hk => by
      rw [cell_of_row w1 _ k _ _ _ hKrow]; exact cells_get KK k (by rw [KK_length]; exact hk))
    have hlt2 := hT1.lt2
    have hlt0 : 0 < w1.heap.size := Nat.lt_of_le_of_lt (Nat.zero_le _) hlt2
    clear hKrow
    go_loopw [14] (fun i wr => ∃ k : Nat, k ≤ 64 ∧ i = .int .i64 k ∧ ∃ n, wr = ((w1.alloc (.cells (cells S) 356)).alloc (.cells (cells (rnds H S k)) 297)).drewN n) (fun i _ => 64 - (intOf i).toNat)
    case atStart => exact ⟨0, by omega, rfl, 0, rfl⟩
    case round =>
      obtain ⟨k, hk, rfl, n, rfl⟩ := hrel
      have hVL : (rnds H S k).length = 8 := rnds_length H S hH k
      by_cases hlt : k < 64
      · obtain ⟨V, hV⟩ : ∃ V, V = rnds H S k := ⟨_, rfl⟩
        rw [← hV]
        rw [← hV] at hVL
        have HV := Lib.hid hV; clear hV
        have v0 := cells_get V 0 (by omega)
        have v1 := cells_get V 1 (by omega)
        have v2 := cells_get V 2 (by omega)
        have v3 := cells_get V 3 (by omega)
        have v4 := cells_get V 4 (by omega)
        have v5 := cells_get V 5 (by omega)
        have v6 := cells_get V 6 (by omega)
        have v7 := cells_get V 7 (by omega)
        have sk := cells_get S k (by omega)
        have kk := HK.out k hlt
        have q1 : (k : Int) < 64 := by omega
        have HVL := Lib.hid hVL; clear hVL
        go_wp2
        refine Rg.whole (fun w' => ∃ n, w' = ((w1.alloc (.cells (cells S) 356)).alloc (.cells (cells V) 297)).drewN n) (by kernel_rfl) (by kernel_rfl) ⟨n + 1, rfl⟩ ?_
        repeat (refine Rg.stepK rfl ?_; intro K hK; apply Exists.intro; refine ⟨?_, ?_⟩; (focus (intro w' hw'; obtain ⟨nq, rfl⟩ := hw'; go_simp; (first | (go_at_call 232; exact Calls.quiet_of_same ((big_any _ _ _ _ _ (by omega) (by omega) (by omega) (by omega) (by omega) (by omega)).mono fun _ _ h => ⟨h.1, h.2.symm⟩)) | ((try go_bits); (try go_simp); (try rfl))))); go_simp; refine hK _ ?_; clear hK K)
        refine wpQuiet_nil ?_; intro w' hw'; obtain ⟨nq, rfl⟩ := hw'
        go_wp2
        refine Rg.whole (fun w' => ∃ n, w' = ((w1.alloc (.cells (cells S) 356)).alloc (.cells (cells V) 297)).drewN n) (by kernel_rfl) (by kernel_rfl) ⟨nq + 1, rfl⟩ ?_
        repeat (refine Rg.stepK rfl ?_; intro K hK; apply Exists.intro; refine ⟨?_, ?_⟩; (focus (intro w' hw'; obtain ⟨nq, rfl⟩ := hw'; go_simp; (first | (go_at_call 232; exact Calls.quiet_of_same ((big_any _ _ _ _ _ (by omega) (by omega) (by omega) (by omega) (by omega) (by omega)).mono fun _ _ h => ⟨h.1, h.2.symm⟩)) | ((try go_bits); (try go_simp); (try rfl))))); go_simp; refine hK _ ?_; clear hK K)
        refine wpQuiet_nil ?_; intro w' hw'; obtain ⟨nq, rfl⟩ := hw'
        have hs8 : (cells V).size = (cells (rnd V S k)).size := by rw [cells_size, HVL.out]; rfl
        have HS8 := Lib.hid hs8; clear hs8
        go_wp2_with (refine Rg.store_row rfl 297 _ _ rfl (w1.heap.size + 1) rfl 297 (cells V) (cells (rnd V S k)) rfl (Rg.heap_alloc_at _ _ _ (by simp)) info8 HS8.out (cells_one _) ?_)
        go_roundw
        case rel => exact ⟨k + 1, by omega, by go_num, _, by rw [show rnds H S (k + 1) = rnd V S k from by rw [HV.out]; rfl, Rg.setRow_drewN, Rg.setRow_alloc_at _ _ _ _ _ (by simp)]⟩
        case measure => simp [intOf]; omega
      · obtain rfl : k = 64 := by omega
        rw [show ((64 : Nat) : Int) = 64 from rfl]
        obtain ⟨V, hV⟩ : ∃ V, V = rnds H S 64 := ⟨_, rfl⟩
        rw [← hV]
        rw [← hV] at hVL
        have HV := Lib.hid hV; clear hV
        clear hk hlt
        go_wp2
        have e1 : w1 = w1.setRow w.heap.size (cells (addw H V 0)) := (Rg.setRow_self G0.out).symm
        have E1 := Lib.hid e1; clear e1
        go_loopw [86] (fun i wr => ∃ k : Nat, k ≤ 8 ∧ i = .int .i64 k ∧ ∃ n, wr = (((w1.setRow w.heap.size (cells (addw H V k))).alloc (.cells (cells S) 356)).alloc (.cells (cells V) 297)).drewN n) (fun i _ => 8 - (intOf i).toNat)
        case atStart => exact ⟨0, by omega, rfl, n, by rw [← E1.out]⟩
        case round =>
          obtain ⟨k, hk, rfl, n, rfl⟩ := hrel
          by_cases hlt : k < 8
          · have hAL : (addw H V k).length = 8 := by rw [addw_length, hH]
            have a0 := cells_get (addw H V k) k (by omega)
            have v0 := cells_get V k (by omega)
            have c0 : (w1.setRow w.heap.size (cells (addw H V k))).cell? ⟨w.heap.size, k, none⟩ = some (.int .u32 (n32 (rd (addw H V k) k))) := by rw [cell_setRow_same _ _ _ _ _ _ _ G0.out, a0]
            have z0 : w.heap.size < w1.heap.size := by omega
            have f0 : (w1.setRow w.heap.size (cells (addw H V k))).frozen? ⟨w.heap.size, k, none⟩ = false := frozen_of_row _ _ _ _ _ (setRow_heap _ _ _ _ _ _ G0.out)
            have q1 : (k : Int) < 8 := by omega
            go_wp2
            refine Rg.tail (fun w' => ∃ n, w' = (((w1.setRow w.heap.size (cells (addw H V k))).alloc (.cells (cells S) 356)).alloc (.cells (cells V) 297)).drewN n) 8 (by kernel_rfl) (by kernel_rfl) ⟨n + 1, rfl⟩ ?_; simp only [List.take_succ_cons, List.take_zero, List.drop_succ_cons, List.drop_zero]
            repeat (refine Rg.stepK rfl ?_; intro K hK; apply Exists.intro; refine ⟨?_, ?_⟩; (focus (intro w' hw'; obtain ⟨nq, rfl⟩ := hw'; go_simp; (first | (fail) | ((try go_bits); (try go_simp); (try rfl))))); go_simp; refine hK _ ?_; clear hK K)
            refine wpQuiet_nil ?_; intro w' hw'; obtain ⟨nq, rfl⟩ := hw'
            go_wp2
            go_roundw
            case rel => exact ⟨k + 1, by omega, by go_num, nq, by rw [Rg.setCell_setRow G0.out, cells_set]; rfl⟩
            case measure => simp [intOf]; omega
          · obtain rfl : k = 8 := by omega
            have hAL : (addw H V 8).length = 8 := by rw [addw_length, hH]
            have hP : Hid (press H l = addw H V 8) := by rw [HV.out, ← HS.out]; exact Lib.hid rfl
            generalize hA : addw H V 8 = A at *
            have hiA : (Tryz.prog.info? 297).map (·.size) = some (cells A).size := by rw [cells_size, hAL]; exact info8
            have hzA : (#[Value.int .u32 0, .int .u32 0, .int .u32 0, .int .u32 0, .int .u32 0, .int .u32 0, .int .u32 0, .int .u32 0] : Array Value).size = (cells A).size := by rw [cells_size, hAL]; rfl
            have HIA := Lib.hid hiA; clear hiA
            have HZA := Lib.hid hzA; clear hzA
            have z0 : w.heap.size < w1.heap.size := by omega
            have z3 : w.heap.size < (w1.setRow w.heap.size (cells A)).heap.size := by simp; omega
            have z4 : w.heap.size + 1 < (w1.setRow w.heap.size (cells A)).heap.size := by simp; omega
            have GA : Hid ((w1.setRow w.heap.size (cells A)).heap[w.heap.size]? = some (.cells (cells A) 297 (0, 0))) := Lib.hid (setRow_heap _ _ _ _ _ _ G0.out)
            have GB : Hid ((w1.setRow w.heap.size (cells A)).heap[w.heap.size + 1]? = some (.cells _ 297 (0, 0))) := Lib.hid ((setRow_other _ _ _ _ (by omega)).trans G1.out)
            go_wp2_with (first | (refine wpList_load_row rfl 297 _ rfl w.heap.size rfl 297 (cells A) (0, 0) _ (by exact ((Rg.heap_alloc_past _ _ _ (by rw [World.size_alloc]; omega)).trans ((Rg.heap_alloc_past _ _ _ z3).trans GA.out))) Tryz.underlying297 rfl HIA.out ?_) | (refine Rg.store_row rfl 297 _ _ rfl (w.heap.size + 1) rfl 297 _ (cells A) rfl (by exact ((Rg.heap_alloc_past _ _ _ (by rw [World.size_alloc]; omega)).trans ((Rg.heap_alloc_past _ _ _ z4).trans GB.out))) HIA.out HZA.out (cells_one _) ?_))
            refine bodyPost_ret (v := .agg (cells A)) (results_cell_row (P := Tryz.prog) rfl _ _ (w.heap.size + 1) 297 (cells A) (0, 0) _ rfl (setRow_heap _ _ _ _ 297 _ ((Rg.heap_alloc_past _ _ _ (by rw [World.size_alloc]; omega)).trans ((Rg.heap_alloc_past _ _ _ z4).trans GB.out))) Tryz.underlying297 rfl HIA.out) rfl ⟨by rw [hP.out], ?_⟩
            exact Rg.below_setRow (Rg.below_drewN (((Rg.below_setRow hBw (Nat.le_refl _) _).alloc (by omega) _).alloc (by simp; omega) _) _) (by omega) _
end Sha
end Go.Proofs.YtjkbpdobeljmjaaGreatDoor


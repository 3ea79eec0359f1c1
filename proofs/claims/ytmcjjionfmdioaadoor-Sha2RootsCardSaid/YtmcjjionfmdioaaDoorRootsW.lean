/- The walk of custumalref01's Root. -/
import Derived.Test.YtmcjjionfmdioaaDoorRoots
import Derived.Test.YtmcjjionfmdioaaDoorPerm
import Derived.Test.YtmcjjionfmdioaaDoorShaA
namespace Go.Proofs.YtmcjjionfmdioaaDoor
open Go.RowKit Bits Mem Roots
namespace Ref
theorem ltH {w : World} {g : Nat} {o : Obj} (h : w.heap[g]? = some o) : g < w.heap.size := (Array.getElem?_eq_some_iff.1 h).1
def pv (cube : Bool) (p : Nat) : Nat := bif cube then p * 65536 ^ 6 else p * 65536 ^ 4
theorem pv_lt (cube : Bool) (p : Nat) (h : p < 312) : pv cube p < 65536 ^ 28 := by
  cases cube
  · show p * 65536 ^ 4 < 65536 ^ 28
    omega
  · show p * 65536 ^ 6 < 65536 ^ 28
    omega
theorem rts_lt (c : Bool) (p m : Nat) (h : m ≤ 38) : rts c p m < 2 ^ 38 := by
  have := (rts_mul c p m h).2
  have := Nat.two_pow_pos (38 - m)
  omega
theorem rts_bit (c : Bool) (p m : Nat) (h : m < 38) : rts c p m + 2 ^ (37 - m) < 2 ^ 38 ∧ rts c p m % 2 ^ (37 - m + 1) = 0 := by
  have h1 := (rts_mul c p m (by omega))
  have e : 2 ^ (38 - m) = 2 * 2 ^ (37 - m) := by rw [show 38 - m = (37 - m) + 1 by omega, Nat.pow_succ, Nat.mul_comm]
  have := Nat.two_pow_pos (37 - m)
  refine ⟨by omega, ?_⟩
  rw [show 37 - m + 1 = 38 - m by omega]
  exact h1.1
theorem rts_step (c : Bool) (p m : Nat) : rts c p (m + 1) = if decide ((bif c then (rts c p m + 2 ^ (37 - m)) * (rts c p m + 2 ^ (37 - m)) * (rts c p m + 2 ^ (37 - m)) else (rts c p m + 2 ^ (37 - m)) * (rts c p m + 2 ^ (37 - m))) ≤ pv c p) = true then rts c p m + 2 ^ (37 - m) else rts c p m := by
  show stp c p (rts c p m) (37 - m) = _
  unfold stp pv
  cases c <;> rfl
theorem sq_lt (y : Nat) (h : y < 2 ^ 38) : y * y < 65536 ^ 28 ∧ y * y * y < 65536 ^ 28 := by
  have h1 : y * y ≤ 2 ^ 38 * 2 ^ 38 := Nat.mul_le_mul (Nat.le_of_lt h) (Nat.le_of_lt h)
  have h2 : y * y * y ≤ 2 ^ 38 * 2 ^ 38 * 2 ^ 38 := Nat.mul_le_mul h1 (Nat.le_of_lt h)
  omega
theorem z28_eq : z28 = cN (limbs 0) := congrArg cN (show List.replicate 28 0 = limbs 0 by decide)
theorem z28_lit : (#[Value.int .i64 0, Value.int .i64 0, Value.int .i64 0, Value.int .i64 0, Value.int .i64 0, Value.int .i64 0, Value.int .i64 0, Value.int .i64 0, Value.int .i64 0, Value.int .i64 0, Value.int .i64 0, Value.int .i64 0, Value.int .i64 0, Value.int .i64 0, Value.int .i64 0, Value.int .i64 0, Value.int .i64 0, Value.int .i64 0, Value.int .i64 0, Value.int .i64 0, Value.int .i64 0, Value.int .i64 0, Value.int .i64 0, Value.int .i64 0, Value.int .i64 0, Value.int .i64 0, Value.int .i64 0, Value.int .i64 0] : Array Value) = z28 := rfl
theorem lit4 (p : Nat) (h : p < 65536) : (#[Value.int .i64 0, Value.int .i64 0, Value.int .i64 0, Value.int .i64 0, Value.int .i64 (p : Int), Value.int .i64 0, Value.int .i64 0, Value.int .i64 0, Value.int .i64 0, Value.int .i64 0, Value.int .i64 0, Value.int .i64 0, Value.int .i64 0, Value.int .i64 0, Value.int .i64 0, Value.int .i64 0, Value.int .i64 0, Value.int .i64 0, Value.int .i64 0, Value.int .i64 0, Value.int .i64 0, Value.int .i64 0, Value.int .i64 0, Value.int .i64 0, Value.int .i64 0, Value.int .i64 0, Value.int .i64 0, Value.int .i64 0] : Array Value) = cN (limbs (p * 65536 ^ 4)) := by rw [limbs_v p 4 h (by decide)]; rfl
theorem lit6 (p : Nat) (h : p < 65536) : (#[Value.int .i64 0, Value.int .i64 0, Value.int .i64 0, Value.int .i64 0, Value.int .i64 0, Value.int .i64 0, Value.int .i64 (p : Int), Value.int .i64 0, Value.int .i64 0, Value.int .i64 0, Value.int .i64 0, Value.int .i64 0, Value.int .i64 0, Value.int .i64 0, Value.int .i64 0, Value.int .i64 0, Value.int .i64 0, Value.int .i64 0, Value.int .i64 0, Value.int .i64 0, Value.int .i64 0, Value.int .i64 0, Value.int .i64 0, Value.int .i64 0, Value.int .i64 0, Value.int .i64 0, Value.int .i64 0, Value.int .i64 0] : Array Value) = cN (limbs (p * 65536 ^ 6)) := by rw [limbs_v p 6 h (by decide)]; rfl
set_option maxRecDepth 100000 in
set_option maxHeartbeats 4000000 in
theorem root_any (p : Nat) (cube : Bool) (w : World) (hp : p < 312) :
    Calls Tryd.prog 48 #[.int .i64 p, .bool cube, .int .i64 32] w fun e w' => e = .returned (.agg (cN (limbs (rts cube p 38)))) ∧ Below w.heap.size w w' := by
  obtain ⟨V, hV⟩ : ∃ V, V = pv cube p := ⟨_, rfl⟩
  have HVL : Hid (V < 65536 ^ 28) := Lib.hid (by rw [hV]; exact pv_lt cube p hp)
  have HV := Lib.hid hV
  clear hV
  go_enter Tryd.func48, Tryd.ntmps48
  cases cube
  · have hvl := Lib.hid (lit4 p (by omega))
    rw [show p * 65536 ^ 4 = V by rw [HV.out]; rfl] at hvl
    go_wp2
    have hb0 : Below w.heap.size w (((w.alloc (.cells z28 74)).alloc (.cells (cN (limbs V)) 74)).alloc (.cells z28 74)) := (((Below.refl _ _).alloc (Nat.le_refl _) _).alloc (by simp) _).alloc (by simp; omega) _
    obtain ⟨G, hG⟩ : ∃ G, G = w.heap.size := ⟨_, rfl⟩
    have hr0 : (((w.alloc (.cells z28 74)).alloc (.cells (cN (limbs V)) 74)).alloc (.cells z28 74)).heap[G]? = some (.cells z28 74 (0, 0)) := by
      rw [Rg.heap_alloc_past _ _ _ (by simp; omega), Rg.heap_alloc_past _ _ _ (by simp; omega)]; exact Rg.heap_alloc_at _ _ _ hG
    have hr1 : (((w.alloc (.cells z28 74)).alloc (.cells (cN (limbs V)) 74)).alloc (.cells z28 74)).heap[G + 1]? = some (.cells (cN (limbs V)) 74 (0, 0)) := by
      rw [Rg.heap_alloc_past _ _ _ (by simp; omega)]; exact Rg.heap_alloc_at _ _ _ (by simp; omega)
    have hr2 : (((w.alloc (.cells z28 74)).alloc (.cells (cN (limbs V)) 74)).alloc (.cells z28 74)).heap[G + 1 + 1]? = some (.cells (cN (limbs 0)) 74 (0, 0)) := by rw [← z28_eq]; exact Rg.heap_alloc_at _ _ _ (by simp; omega)
    rw [← hG] at hb0 ⊢
    have HR0 := Lib.hid (And.intro hr0 (And.intro hr1 hr2))
    have HB0 := Lib.hid hb0
    have HGW := Lib.hid hG
    rw [z28_lit, hvl.out]
    generalize ((w.alloc (.cells z28 74)).alloc (.cells (cN (limbs V)) 74)).alloc (.cells z28 74) = w0 at *
    clear hr0 hr1 hr2 hb0 hG hvl
    go_loopw [9] (fun i wr => ∃ m : Nat, m ≤ 38 ∧ i = .int .i64 (37 - (m : Int)) ∧ Hid (wr.heap[G]? = some (.cells z28 74 (0, 0)) ∧ wr.heap[G + 1]? = some (.cells (cN (limbs V)) 74 (0, 0)) ∧ wr.heap[G + 1 + 1]? = some (.cells (cN (limbs (rts false p m))) 74 (0, 0))) ∧ Hid (Below G w wr)) (fun i _ => (intOf i + 1).toNat)
    case atStart => exact ⟨0, by omega, rfl, HR0, HB0⟩
    case round =>
      obtain ⟨m, hm, rfl, HR, HB⟩ := hrel
      by_cases hlt : m < 38
      · obtain ⟨i, hi⟩ : ∃ i, i = 37 - m := ⟨_, rfl⟩
        rw [show (37 : Int) - (m : Int) = (i : Int) by omega]
        obtain ⟨X, hX⟩ : ∃ X, X = rts false p m := ⟨_, rfl⟩
        have HS := Lib.hid (rts_step false p m)
        have hbit := rts_bit false p m hlt
        rw [← hX, ← hi] at HS hbit
        rw [← hX] at HR
        have hXl : X < 65536 ^ 28 := Nat.lt_of_lt_of_le (by have := hbit.1; have := Nat.two_pow_pos i; omega : X < 2 ^ 38) (by decide)
        have hset := limbs_bit X i (by omega) hXl hbit.2
        obtain ⟨Y, hY⟩ : ∃ Y, Y = X + 2 ^ i := ⟨_, rfl⟩
        rw [← hY] at HS hbit hset
        have hYl := sq_lt Y hbit.1
        have hYb : Y < 65536 ^ 28 := Nat.lt_of_lt_of_le hbit.1 (by decide)
        have HI := Lib.hid hi
        have HY := Lib.hid (And.intro hYb hYl)
        obtain ⟨x, hx⟩ : ∃ x, x = lb X (i / 16) := ⟨_, rfl⟩
        rw [← hx] at hset
        have hxg := cN_get (limbs X) (i / 16) x (by rw [hx]; exact limbs_get X _ (by omega))
        have HSET := Lib.hid hset.1
        have hset2 := hset.2
        have hiI : (i : Int) ≤ 37 := by omega
        have hrow := HR.out.2.2
        have hIX := infoLimbs X
        have hi16 : (i : Int) / 16 < 28 := by omega
        have hi0 : (0 : Int) ≤ (i : Int) / 16 := by omega
        have hit : ((i : Int) / 16).toNat = i / 16 := by omega
        have hrt : ((i : Int) % 16).toNat = i % 16 := by omega
        have hr0 : (0 : Int) ≤ (i : Int) % 16 := by omega
        have hr1 : (i : Int) % 16 < 16 := by omega
        obtain ⟨D, hD⟩ : ∃ D, D = 2 ^ (i % 16) := ⟨_, rfl⟩
        rw [← hD] at HSET hset2
        have hD2 : (2 : Int) ^ (i % 16) = (D : Int) := by rw [hD]; simp
        clear hX hbit hXl hset hY hYl hYb hi hx hD
        go_wp2_with (first | (refine wpList_load_row rfl 74 _ rfl (G + 1 + 1) rfl 74 (cN (limbs X)) (0, 0) _ hrow Tryd.underlying74 rfl hIX ?_) | (refine Rg.store_row_new rfl 74 _ _ rfl wr.heap.size rfl rfl 74 _ (cN (limbs X)) rfl hIX (by rw [cN_size, limbs_length]; rfl) (cN_one _) ?_))
        refine Rg.tail (fun w' => ∃ n, w' = (wr.alloc (.cells (cN (limbs X)) 74)).drewN n) 11 (by kernel_rfl) (by kernel_rfl) ⟨0 + 1, rfl⟩ ?_; simp only [List.take_succ_cons, List.take_zero, List.drop_succ_cons, List.drop_zero]
        repeat (refine Rg.stepK rfl ?_; intro K hK; apply Exists.intro; refine ⟨?_, ?_⟩; (focus (intro w' hw'; obtain ⟨nq, rfl⟩ := hw'; go_simp; (first | (fail) | ((try go_bits); (try go_simp); (try rfl))))); go_simp; refine hK _ ?_; clear hK K)
        refine wpQuiet_nil ?_; intro w' hw'; obtain ⟨nq, rfl⟩ := hw'
        have HRY : Hid (∀ k, ((wr.alloc (.cells ((cN (limbs X)).setIfInBounds (i / 16) (.int .i64 ((x : Int) + (D : Int)))) 74)).drewN k).heap[wr.heap.size]? = some (.cells (cN (limbs Y)) 74 (0, 0))) := Lib.hid (fun k => by
          rw [← HSET.out, ← cN_set]
          exact Rg.heap_alloc_at _ _ _ rfl)
        have HIY := Lib.hid (infoLimbs Y)
        have HBY : Hid (∀ k c, Below wr.heap.size wr ((wr.alloc (.cells c 74)).drewN k)) := Lib.hid (fun k c => Rg.below_drewN ((Below.refl _ _).alloc (Nat.le_refl _) _) k)
        go_wp2_with (refine wpList_load_row rfl 74 _ rfl wr.heap.size rfl 74 (cN (limbs Y)) (0, 0) _ (HRY.out _) Tryd.underlying74 rfl HIY.out ?_)
        obtain ⟨wy, hwy⟩ : ∃ wy, wy = (wr.alloc (.cells ((cN (limbs X)).setIfInBounds (i / 16) (.int .i64 ((x : Int) + (D : Int)))) 74)).drewN nq := ⟨_, rfl⟩
        have hry : wy.heap[wr.heap.size]? = some (.cells (cN (limbs Y)) 74 (0, 0)) := by rw [hwy]; exact HRY.out nq
        have hby : Below wr.heap.size wr wy := by rw [hwy]; exact HBY.out _ _
        rw [← hwy]
        clear hwy HRY HBY hrow
        refine (times_any Y Y wy HY.out.1).mono ?_
        rintro e w1 ⟨rfl, hb1⟩
        obtain ⟨Z, hZ⟩ : ∃ Z, Z = Y * Y := ⟨_, rfl⟩
        rw [← hZ]
        have hZl : Z < 65536 ^ 28 := by rw [hZ]; exact HY.out.2.1
        obtain ⟨w2, hw2⟩ : ∃ w2, w2 = w1.alloc (.cells (cN (limbs Z)) 74) := ⟨_, rfl⟩
        have hb2 : Below wr.heap.size wr w2 := by rw [hw2]; exact (hby.trans (hb1.mono hby.size)).alloc (Nat.le_trans hby.size hb1.size) _
        have hsy : wr.heap.size < w1.heap.size := Nat.lt_of_lt_of_le (ltH hry) hb1.size
        have HZR : Hid (w2.heap[w1.heap.size]? = some (.cells (cN (limbs Z)) 74 (0, 0))) := Lib.hid (by rw [hw2]; exact Rg.heap_alloc_at _ _ _ rfl)
        have HYR : Hid (w2.heap[wr.heap.size]? = some (.cells (cN (limbs Y)) 74 (0, 0))) := Lib.hid (by rw [hw2, Rg.heap_alloc_past _ _ _ hsy]; exact Rp.row_le hb1 hry)
        have HR2 : Hid (w2.heap[G]? = some (.cells z28 74 (0, 0)) ∧ w2.heap[G + 1]? = some (.cells (cN (limbs V)) 74 (0, 0)) ∧ w2.heap[G + 1 + 1]? = some (.cells (cN (limbs X)) 74 (0, 0))) := Lib.hid ⟨Rp.row_le hb2 HR.out.1, Rp.row_le hb2 HR.out.2.1, Rp.row_le hb2 HR.out.2.2⟩
        have HLT : Hid (G + 1 + 1 < wr.heap.size ∧ wr.heap.size < w1.heap.size) := Lib.hid ⟨ltH HR.out.2.2, hsy⟩
        have HB2 : Hid (Below G w w2) := Lib.hid (HB.out.trans (hb2.mono (HGW.out ▸ HB.out.size)))
        have HW2 := Lib.hid hw2
        have HIZ := Lib.hid (infoLimbs Z)
        obtain ⟨yb, hyb⟩ : ∃ yb, yb = wr.heap.size := ⟨_, rfl⟩
        obtain ⟨zb, hzb⟩ : ∃ zb, zb = w1.heap.size := ⟨_, rfl⟩
        have HZB := Lib.hid hzb
        rw [← hyb] at HYR HLT ⊢
        rw [← hzb] at HZR HLT
        clear hry hby hb1 hb2 hsy hw2 HR HB hyb
        have HSV : Hid (rts false p (m + 1) = if decide (Z ≤ V) = true then Y else X) := Lib.hid (by rw [HS.out, HV.out, hZ]; rfl)
        clear hZ HS hzb
        go_wp2_with (first | (rw [← HW2.out, ← HZB.out]; (refine wpList_load_row rfl 74 _ rfl (G + 1) rfl 74 (cN (limbs V)) (0, 0) _ HR2.out.2.1 Tryd.underlying74 rfl (infoLimbs V) ?_)) | (refine wpList_load_row rfl 74 _ rfl zb rfl 74 (cN (limbs Z)) (0, 0) _ HZR.out Tryd.underlying74 rfl (infoLimbs Z) ?_) | (refine Rg.store_row_new rfl 74 _ _ rfl w1.heap.size rfl rfl 74 _ (cN (limbs Z)) rfl HIZ.out (by rw [cN_size, limbs_length]; rfl) (cN_one _) ?_))
        refine (less_any V Z w2 HVL.out hZl).mono ?_
        rintro e w5 ⟨rfl, hb5⟩
        have HR5 : Hid (w5.heap[G]? = some (.cells z28 74 (0, 0)) ∧ w5.heap[G + 1]? = some (.cells (cN (limbs V)) 74 (0, 0)) ∧ w5.heap[G + 1 + 1]? = some (.cells (cN (limbs X)) 74 (0, 0))) := Lib.hid ⟨Rp.row_le hb5 HR2.out.1, Rp.row_le hb5 HR2.out.2.1, Rp.row_le hb5 HR2.out.2.2⟩
        have HY5 := Lib.hid (Rp.row_le hb5 HYR.out)
        have HB5 : Hid (Below G w w5) := Lib.hid (HB2.out.trans (hb5.mono (HGW.out ▸ HB2.out.size)))
        clear hb5
        by_cases hcmp : Z ≤ V
        · have hd : decide (V < Z) = false := decide_eq_false (by omega)
          have HM : Hid (rts false p (m + 1) = Y) := Lib.hid (by rw [HSV.out, decide_eq_true hcmp]; rfl)
          clear hcmp
          rw [hd]
          go_wp2_with (first | (refine wpList_load_row rfl 74 _ rfl yb rfl 74 (cN (limbs Y)) (0, 0) _ HY5.out Tryd.underlying74 rfl (infoLimbs Y) ?_) | (refine Rg.store_row rfl 74 _ _ rfl (G + 1 + 1) rfl 74 (cN (limbs X)) (cN (limbs Y)) rfl HR5.out.2.2 (infoLimbs Y) (by rw [cN_size, cN_size, limbs_length, limbs_length]) (cN_one _) ?_))
          refine ⟨⟨m + 1, by omega, by have := HI.out; congr 1; omega, Lib.hid ⟨?_, ?_, ?_⟩, Lib.hid ?_⟩, by simp [intOf]⟩
          · rw [setRow_other _ _ _ _ (by omega)]; exact HR5.out.1
          · rw [setRow_other _ _ _ _ (by omega)]; exact HR5.out.2.1
          · rw [HM.out]; exact setRow_heap _ _ _ _ _ _ HR5.out.2.2
          · exact Rg.below_setRow HB5.out (by omega) _
        · have hd : decide (V < Z) = true := decide_eq_true (by omega)
          have HM : Hid (rts false p (m + 1) = X) := Lib.hid (by rw [HSV.out, decide_eq_false hcmp]; rfl)
          clear hcmp
          rw [hd]
          go_wp2_with fail
          exact ⟨⟨m + 1, by omega, by have := HI.out; congr 1; omega, Lib.hid (by rw [HM.out]; exact HR5.out), HB5⟩, by simp [intOf]⟩
      · obtain rfl : m = 38 := by omega
        rw [show (37 : Int) - ((38 : Nat) : Int) = -1 from rfl]
        obtain ⟨R, hR⟩ : ∃ R, R = cN (limbs (rts false p 38)) := ⟨_, rfl⟩
        have HIM : Hid ((Tryd.prog.info? 74).map (·.size) = some R.size) := Lib.hid (by rw [hR]; exact infoLimbs _)
        have HSZ : Hid (z28.size = R.size) := Lib.hid (by rw [hR, cN_size, limbs_length]; rfl)
        have HON : Hid (R.all (·.oneCell') = true) := Lib.hid (by rw [hR]; exact cN_one _)
        have HRE := Lib.hid hR
        rw [← hR] at HR
        clear hR
        go_wp2_with (first | (refine wpList_load_row rfl 74 _ rfl (G + 1 + 1) rfl 74 R (0, 0) _ HR.out.2.2 Tryd.underlying74 rfl HIM.out ?_) | (refine Rg.store_row rfl 74 _ _ rfl G rfl 74 z28 R rfl HR.out.1 HIM.out HSZ.out HON.out ?_))
        refine bodyPost_ret (v := .agg R) (results_cell_row (P := Tryd.prog) rfl _ _ G 74 R (0, 0) _ rfl (setRow_heap _ _ z28 _ 74 _ HR.out.1) Tryd.underlying74 rfl HIM.out) rfl ⟨by rw [HRE.out], ?_⟩
        rw [← HGW.out]
        exact Rg.below_setRow HB.out (Nat.le_refl _) _
  · have hvl := Lib.hid (lit6 p (by omega))
    rw [show p * 65536 ^ 6 = V by rw [HV.out]; rfl] at hvl
    go_wp2
    have hb0 : Below w.heap.size w (((w.alloc (.cells z28 74)).alloc (.cells (cN (limbs V)) 74)).alloc (.cells z28 74)) := (((Below.refl _ _).alloc (Nat.le_refl _) _).alloc (by simp) _).alloc (by simp; omega) _
    obtain ⟨G, hG⟩ : ∃ G, G = w.heap.size := ⟨_, rfl⟩
    have hr0 : (((w.alloc (.cells z28 74)).alloc (.cells (cN (limbs V)) 74)).alloc (.cells z28 74)).heap[G]? = some (.cells z28 74 (0, 0)) := by
      rw [Rg.heap_alloc_past _ _ _ (by simp; omega), Rg.heap_alloc_past _ _ _ (by simp; omega)]; exact Rg.heap_alloc_at _ _ _ hG
    have hr1 : (((w.alloc (.cells z28 74)).alloc (.cells (cN (limbs V)) 74)).alloc (.cells z28 74)).heap[G + 1]? = some (.cells (cN (limbs V)) 74 (0, 0)) := by
      rw [Rg.heap_alloc_past _ _ _ (by simp; omega)]; exact Rg.heap_alloc_at _ _ _ (by simp; omega)
    have hr2 : (((w.alloc (.cells z28 74)).alloc (.cells (cN (limbs V)) 74)).alloc (.cells z28 74)).heap[G + 1 + 1]? = some (.cells (cN (limbs 0)) 74 (0, 0)) := by rw [← z28_eq]; exact Rg.heap_alloc_at _ _ _ (by simp; omega)
    rw [← hG] at hb0 ⊢
    have HR0 := Lib.hid (And.intro hr0 (And.intro hr1 hr2))
    have HB0 := Lib.hid hb0
    have HGW := Lib.hid hG
    rw [z28_lit, hvl.out]
    generalize ((w.alloc (.cells z28 74)).alloc (.cells (cN (limbs V)) 74)).alloc (.cells z28 74) = w0 at *
    clear hr0 hr1 hr2 hb0 hG hvl
    go_loopw [9] (fun i wr => ∃ m : Nat, m ≤ 38 ∧ i = .int .i64 (37 - (m : Int)) ∧ Hid (wr.heap[G]? = some (.cells z28 74 (0, 0)) ∧ wr.heap[G + 1]? = some (.cells (cN (limbs V)) 74 (0, 0)) ∧ wr.heap[G + 1 + 1]? = some (.cells (cN (limbs (rts true p m))) 74 (0, 0))) ∧ Hid (Below G w wr)) (fun i _ => (intOf i + 1).toNat)
    case atStart => exact ⟨0, by omega, rfl, HR0, HB0⟩
    case round =>
      obtain ⟨m, hm, rfl, HR, HB⟩ := hrel
      by_cases hlt : m < 38
      · obtain ⟨i, hi⟩ : ∃ i, i = 37 - m := ⟨_, rfl⟩
        rw [show (37 : Int) - (m : Int) = (i : Int) by omega]
        obtain ⟨X, hX⟩ : ∃ X, X = rts true p m := ⟨_, rfl⟩
        have HS := Lib.hid (rts_step true p m)
        have hbit := rts_bit true p m hlt
        rw [← hX, ← hi] at HS hbit
        rw [← hX] at HR
        have hXl : X < 65536 ^ 28 := Nat.lt_of_lt_of_le (by have := hbit.1; have := Nat.two_pow_pos i; omega : X < 2 ^ 38) (by decide)
        have hset := limbs_bit X i (by omega) hXl hbit.2
        obtain ⟨Y, hY⟩ : ∃ Y, Y = X + 2 ^ i := ⟨_, rfl⟩
        rw [← hY] at HS hbit hset
        have hYl := sq_lt Y hbit.1
        have hYb : Y < 65536 ^ 28 := Nat.lt_of_lt_of_le hbit.1 (by decide)
        have HI := Lib.hid hi
        have HY := Lib.hid (And.intro hYb hYl)
        obtain ⟨x, hx⟩ : ∃ x, x = lb X (i / 16) := ⟨_, rfl⟩
        rw [← hx] at hset
        have hxg := cN_get (limbs X) (i / 16) x (by rw [hx]; exact limbs_get X _ (by omega))
        have HSET := Lib.hid hset.1
        have hset2 := hset.2
        have hiI : (i : Int) ≤ 37 := by omega
        have hrow := HR.out.2.2
        have hIX := infoLimbs X
        have hi16 : (i : Int) / 16 < 28 := by omega
        have hi0 : (0 : Int) ≤ (i : Int) / 16 := by omega
        have hit : ((i : Int) / 16).toNat = i / 16 := by omega
        have hrt : ((i : Int) % 16).toNat = i % 16 := by omega
        have hr0 : (0 : Int) ≤ (i : Int) % 16 := by omega
        have hr1 : (i : Int) % 16 < 16 := by omega
        obtain ⟨D, hD⟩ : ∃ D, D = 2 ^ (i % 16) := ⟨_, rfl⟩
        rw [← hD] at HSET hset2
        have hD2 : (2 : Int) ^ (i % 16) = (D : Int) := by rw [hD]; simp
        clear hX hbit hXl hset hY hYl hYb hi hx hD
        go_wp2_with (first | (refine wpList_load_row rfl 74 _ rfl (G + 1 + 1) rfl 74 (cN (limbs X)) (0, 0) _ hrow Tryd.underlying74 rfl hIX ?_) | (refine Rg.store_row_new rfl 74 _ _ rfl wr.heap.size rfl rfl 74 _ (cN (limbs X)) rfl hIX (by rw [cN_size, limbs_length]; rfl) (cN_one _) ?_))
        refine Rg.tail (fun w' => ∃ n, w' = (wr.alloc (.cells (cN (limbs X)) 74)).drewN n) 11 (by kernel_rfl) (by kernel_rfl) ⟨0 + 1, rfl⟩ ?_; simp only [List.take_succ_cons, List.take_zero, List.drop_succ_cons, List.drop_zero]
        repeat (refine Rg.stepK rfl ?_; intro K hK; apply Exists.intro; refine ⟨?_, ?_⟩; (focus (intro w' hw'; obtain ⟨nq, rfl⟩ := hw'; go_simp; (first | (fail) | ((try go_bits); (try go_simp); (try rfl))))); go_simp; refine hK _ ?_; clear hK K)
        refine wpQuiet_nil ?_; intro w' hw'; obtain ⟨nq, rfl⟩ := hw'
        have HRY : Hid (∀ k, ((wr.alloc (.cells ((cN (limbs X)).setIfInBounds (i / 16) (.int .i64 ((x : Int) + (D : Int)))) 74)).drewN k).heap[wr.heap.size]? = some (.cells (cN (limbs Y)) 74 (0, 0))) := Lib.hid (fun k => by
          rw [← HSET.out, ← cN_set]
          exact Rg.heap_alloc_at _ _ _ rfl)
        have HIY := Lib.hid (infoLimbs Y)
        have HBY : Hid (∀ k c, Below wr.heap.size wr ((wr.alloc (.cells c 74)).drewN k)) := Lib.hid (fun k c => Rg.below_drewN ((Below.refl _ _).alloc (Nat.le_refl _) _) k)
        go_wp2_with (refine wpList_load_row rfl 74 _ rfl wr.heap.size rfl 74 (cN (limbs Y)) (0, 0) _ (HRY.out _) Tryd.underlying74 rfl HIY.out ?_)
        obtain ⟨wy, hwy⟩ : ∃ wy, wy = (wr.alloc (.cells ((cN (limbs X)).setIfInBounds (i / 16) (.int .i64 ((x : Int) + (D : Int)))) 74)).drewN nq := ⟨_, rfl⟩
        have hry : wy.heap[wr.heap.size]? = some (.cells (cN (limbs Y)) 74 (0, 0)) := by rw [hwy]; exact HRY.out nq
        have hby : Below wr.heap.size wr wy := by rw [hwy]; exact HBY.out _ _
        rw [← hwy]
        clear hwy HRY HBY hrow
        refine (times_any Y Y wy HY.out.1).mono ?_
        rintro e w1 ⟨rfl, hb1⟩
        obtain ⟨Z, hZ⟩ : ∃ Z, Z = Y * Y := ⟨_, rfl⟩
        rw [← hZ]
        have hZl : Z < 65536 ^ 28 := by rw [hZ]; exact HY.out.2.1
        obtain ⟨w2, hw2⟩ : ∃ w2, w2 = w1.alloc (.cells (cN (limbs Z)) 74) := ⟨_, rfl⟩
        have hb2 : Below wr.heap.size wr w2 := by rw [hw2]; exact (hby.trans (hb1.mono hby.size)).alloc (Nat.le_trans hby.size hb1.size) _
        have hsy : wr.heap.size < w1.heap.size := Nat.lt_of_lt_of_le (ltH hry) hb1.size
        have HZR : Hid (w2.heap[w1.heap.size]? = some (.cells (cN (limbs Z)) 74 (0, 0))) := Lib.hid (by rw [hw2]; exact Rg.heap_alloc_at _ _ _ rfl)
        have HYR : Hid (w2.heap[wr.heap.size]? = some (.cells (cN (limbs Y)) 74 (0, 0))) := Lib.hid (by rw [hw2, Rg.heap_alloc_past _ _ _ hsy]; exact Rp.row_le hb1 hry)
        have HR2 : Hid (w2.heap[G]? = some (.cells z28 74 (0, 0)) ∧ w2.heap[G + 1]? = some (.cells (cN (limbs V)) 74 (0, 0)) ∧ w2.heap[G + 1 + 1]? = some (.cells (cN (limbs X)) 74 (0, 0))) := Lib.hid ⟨Rp.row_le hb2 HR.out.1, Rp.row_le hb2 HR.out.2.1, Rp.row_le hb2 HR.out.2.2⟩
        have HLT : Hid (G + 1 + 1 < wr.heap.size ∧ wr.heap.size < w1.heap.size) := Lib.hid ⟨ltH HR.out.2.2, hsy⟩
        have HB2 : Hid (Below G w w2) := Lib.hid (HB.out.trans (hb2.mono (HGW.out ▸ HB.out.size)))
        have HW2 := Lib.hid hw2
        have HIZ := Lib.hid (infoLimbs Z)
        obtain ⟨yb, hyb⟩ : ∃ yb, yb = wr.heap.size := ⟨_, rfl⟩
        obtain ⟨zb, hzb⟩ : ∃ zb, zb = w1.heap.size := ⟨_, rfl⟩
        have HZB := Lib.hid hzb
        rw [← hyb] at HYR HLT ⊢
        rw [← hzb] at HZR HLT
        clear hry hby hb1 hb2 hsy hw2 HR HB hyb
        have HZE := Lib.hid hZ
        clear hzb hZ
        go_wp2_with (first | (rw [← HW2.out, ← HZB.out]; (refine wpList_load_row rfl 74 _ rfl zb rfl 74 (cN (limbs Z)) (0, 0) _ HZR.out Tryd.underlying74 rfl (infoLimbs Z) ?_)) | (refine wpList_load_row rfl 74 _ rfl yb rfl 74 (cN (limbs Y)) (0, 0) _ HYR.out Tryd.underlying74 rfl (infoLimbs Y) ?_) | (refine Rg.store_row_new rfl 74 _ _ rfl w1.heap.size rfl rfl 74 _ (cN (limbs Z)) rfl HIZ.out (by rw [cN_size, limbs_length]; rfl) (cN_one _) ?_))
        refine (times_any Z Y w2 hZl).mono ?_
        rintro e w3 ⟨rfl, hb3⟩
        obtain ⟨T, hT⟩ : ∃ T, T = Z * Y := ⟨_, rfl⟩
        rw [← hT]
        have hTl : T < 65536 ^ 28 := by rw [hT, HZE.out]; exact HY.out.2.2
        have HSV : Hid (rts true p (m + 1) = if decide (T ≤ V) = true then Y else X) := Lib.hid (by rw [HS.out, HV.out, hT, HZE.out]; rfl)
        have hz3 := Rp.row_le hb3 HZR.out
        obtain ⟨w4, hw4⟩ : ∃ w4, w4 = w3.setRow zb (cN (limbs T)) := ⟨_, rfl⟩
        have hoth : ∀ {g : Nat} {o : Obj}, g ≠ zb → w2.heap[g]? = some o → w4.heap[g]? = some o := fun hg h => by rw [hw4, setRow_other _ _ _ _ hg]; exact Rp.row_le hb3 h
        have HZT : Hid (w4.heap[zb]? = some (.cells (cN (limbs T)) 74 (0, 0))) := Lib.hid (by rw [hw4]; exact setRow_heap _ _ _ _ _ _ hz3)
        have HYT : Hid (w4.heap[yb]? = some (.cells (cN (limbs Y)) 74 (0, 0))) := Lib.hid (hoth (by have := HLT.out.2; omega) HYR.out)
        have HRT : Hid (w4.heap[G]? = some (.cells z28 74 (0, 0)) ∧ w4.heap[G + 1]? = some (.cells (cN (limbs V)) 74 (0, 0)) ∧ w4.heap[G + 1 + 1]? = some (.cells (cN (limbs X)) 74 (0, 0))) := Lib.hid ⟨hoth (by have := HLT.out; omega) HR2.out.1, hoth (by have := HLT.out; omega) HR2.out.2.1, hoth (by have := HLT.out; omega) HR2.out.2.2⟩
        have HBT : Hid (Below G w w4) := Lib.hid (by rw [hw4]; exact Rg.below_setRow (HB2.out.trans (hb3.mono (HGW.out ▸ HB2.out.size))) (by have := HLT.out; omega) _)
        have HW4 := Lib.hid hw4
        have HZ3 := Lib.hid hz3
        clear hT hz3 hw4 hoth HZR HYR HR2 HB2 HW2 HS hb3
        go_wp2_with (first | (rw [← HW4.out]; (refine wpList_load_row rfl 74 _ rfl (G + 1) rfl 74 (cN (limbs V)) (0, 0) _ HRT.out.2.1 Tryd.underlying74 rfl (infoLimbs V) ?_)) | (refine wpList_load_row rfl 74 _ rfl zb rfl 74 (cN (limbs T)) (0, 0) _ HZT.out Tryd.underlying74 rfl (infoLimbs T) ?_) | (refine Rg.store_row rfl 74 _ _ rfl zb rfl 74 (cN (limbs Z)) (cN (limbs T)) rfl HZ3.out (infoLimbs T) (by rw [cN_size, cN_size, limbs_length, limbs_length]) (cN_one _) ?_))
        have HYR := HYT
        have HR2 := HRT
        have HB2 := HBT
        refine (less_any V T w4 HVL.out hTl).mono ?_
        rintro e w5 ⟨rfl, hb5⟩
        have HR5 : Hid (w5.heap[G]? = some (.cells z28 74 (0, 0)) ∧ w5.heap[G + 1]? = some (.cells (cN (limbs V)) 74 (0, 0)) ∧ w5.heap[G + 1 + 1]? = some (.cells (cN (limbs X)) 74 (0, 0))) := Lib.hid ⟨Rp.row_le hb5 HR2.out.1, Rp.row_le hb5 HR2.out.2.1, Rp.row_le hb5 HR2.out.2.2⟩
        have HY5 := Lib.hid (Rp.row_le hb5 HYR.out)
        have HB5 : Hid (Below G w w5) := Lib.hid (HB2.out.trans (hb5.mono (HGW.out ▸ HB2.out.size)))
        clear hb5
        by_cases hcmp : T ≤ V
        · have hd : decide (V < T) = false := decide_eq_false (by omega)
          have HM : Hid (rts true p (m + 1) = Y) := Lib.hid (by rw [HSV.out, decide_eq_true hcmp]; rfl)
          clear hcmp
          rw [hd]
          go_wp2_with (first | (refine wpList_load_row rfl 74 _ rfl yb rfl 74 (cN (limbs Y)) (0, 0) _ HY5.out Tryd.underlying74 rfl (infoLimbs Y) ?_) | (refine Rg.store_row rfl 74 _ _ rfl (G + 1 + 1) rfl 74 (cN (limbs X)) (cN (limbs Y)) rfl HR5.out.2.2 (infoLimbs Y) (by rw [cN_size, cN_size, limbs_length, limbs_length]) (cN_one _) ?_))
          refine ⟨⟨m + 1, by omega, by have := HI.out; congr 1; omega, Lib.hid ⟨?_, ?_, ?_⟩, Lib.hid ?_⟩, by simp [intOf]⟩
          · rw [setRow_other _ _ _ _ (by omega)]; exact HR5.out.1
          · rw [setRow_other _ _ _ _ (by omega)]; exact HR5.out.2.1
          · rw [HM.out]; exact setRow_heap _ _ _ _ _ _ HR5.out.2.2
          · exact Rg.below_setRow HB5.out (by omega) _
        · have hd : decide (V < T) = true := decide_eq_true (by omega)
          have HM : Hid (rts true p (m + 1) = X) := Lib.hid (by rw [HSV.out, decide_eq_false hcmp]; rfl)
          clear hcmp
          rw [hd]
          go_wp2_with fail
          exact ⟨⟨m + 1, by omega, by have := HI.out; congr 1; omega, Lib.hid (by rw [HM.out]; exact HR5.out), HB5⟩, by simp [intOf]⟩
      · obtain rfl : m = 38 := by omega
        rw [show (37 : Int) - ((38 : Nat) : Int) = -1 from rfl]
        obtain ⟨R, hR⟩ : ∃ R, R = cN (limbs (rts true p 38)) := ⟨_, rfl⟩
        have HIM : Hid ((Tryd.prog.info? 74).map (·.size) = some R.size) := Lib.hid (by rw [hR]; exact infoLimbs _)
        have HSZ : Hid (z28.size = R.size) := Lib.hid (by rw [hR, cN_size, limbs_length]; rfl)
        have HON : Hid (R.all (·.oneCell') = true) := Lib.hid (by rw [hR]; exact cN_one _)
        have HRE := Lib.hid hR
        rw [← hR] at HR
        clear hR
        go_wp2_with (first | (refine wpList_load_row rfl 74 _ rfl (G + 1 + 1) rfl 74 R (0, 0) _ HR.out.2.2 Tryd.underlying74 rfl HIM.out ?_) | (refine Rg.store_row rfl 74 _ _ rfl G rfl 74 z28 R rfl HR.out.1 HIM.out HSZ.out HON.out ?_))
        refine bodyPost_ret (v := .agg R) (results_cell_row (P := Tryd.prog) rfl _ _ G 74 R (0, 0) _ rfl (setRow_heap _ _ z28 _ 74 _ HR.out.1) Tryd.underlying74 rfl HIM.out) rfl ⟨by rw [HRE.out], ?_⟩
        rw [← HGW.out]
        exact Rg.below_setRow HB.out (Nat.le_refl _) _
end Ref
end Go.Proofs.YtmcjjionfmdioaaDoor

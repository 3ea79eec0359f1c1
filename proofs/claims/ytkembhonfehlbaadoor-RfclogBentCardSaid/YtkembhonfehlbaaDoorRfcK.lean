/- The walks of the climber's right and of power. -/
import Derived.Test.YtkembhonfehlbaaDoorRfcI
import Derived.Test.YtkembhonfehlbaaDoorRefA
namespace Go.Proofs.YtkembhonfehlbaaDoor
open Go.RowKit Bits Mem Sha
namespace Ref
theorem and_one (a : Nat) (h : a < 9223372036854775808) : bits .and .i64 (a : Int) (1 : Int) = ((a % 2 : Nat) : Int) := by
  have := i64_and a 1 h (by omega)
  rw [Nat.and_one_is_mod] at this
  exact this
set_option maxRecDepth 100000 in
set_option maxHeartbeats 1000000 in
theorem right16_any (a b : Nat) (w : World) (ha : a < 9223372036854775808) (hb : b < 9223372036854775808) :
    Calls Tryd.prog 61 #[.agg #[.int .i64 a, .int .i64 b]] w fun e w' => e = .returned (.bool (Rfc.right a b)) ∧ Below w.heap.size w w' := by
  have h1 := and_one a ha
  by_cases ho : a % 2 = 1
  · have HR : Hid (Rfc.right a b = true) := Lib.hid (by unfold Rfc.right; simp [ho])
    rw [ho] at h1
    have h2 : bits .and .i64 (a : Int) (1 : Int) = 1 := h1
    clear h1 ho
    go_enter Tryd.func61, Tryd.ntmps61
    go_wp2_with fail
    go_ret
    exact ⟨by rw [HR.out]; rfl, (Below.refl _ _).alloc (Nat.le_refl _) _⟩
  · have h2 : bits .and .i64 (a : Int) (1 : Int) = 0 := by rw [h1]; omega
    by_cases he : a = b
    · subst he
      have HR : Hid (Rfc.right a a = true) := Lib.hid (by unfold Rfc.right; simp)
      clear h1 ho
      go_enter Tryd.func61, Tryd.ntmps61
      go_wp2_with fail
      go_ret
      exact ⟨by rw [HR.out]; rfl, (Below.refl _ _).alloc (Nat.le_refl _) _⟩
    · have HR : Hid (Rfc.right a b = false) := Lib.hid (by unfold Rfc.right; simp [he]; omega)
      have hne : ((a : Int) == (b : Int)) = false := by rw [beq_eq_false_iff_ne]; omega
      clear h1 ho
      go_enter Tryd.func61, Tryd.ntmps61
      go_wp2_with fail
      go_ret
      exact ⟨by rw [HR.out]; rfl, (Below.refl _ _).alloc (Nat.le_refl _) _⟩
set_option maxRecDepth 100000 in
set_option maxHeartbeats 1000000 in
theorem power_any (m : Nat) (w : World) (h0 : 1 ≤ m) (hm : m < 9223372036854775808) :
    Calls Tryd.prog 65 #[.int .i64 m] w fun e w' => e = .returned (.bool (Rfc.pow2 m)) ∧ w' = w := by
  have h1 := i64_and m (m - 1) hm (by omega)
  obtain ⟨k, hk⟩ : ∃ k, k = m &&& (m - 1) := ⟨_, rfl⟩
  rw [← hk] at h1
  have h2 : bits .and .i64 (m : Int) ((m : Int) - 1) = (k : Int) := by rw [← h1]; congr 1; omega
  by_cases hz : k = 0
  · have HR : Hid (Rfc.pow2 m = true) := Lib.hid (by unfold Rfc.pow2; rw [← hk, hz]; rfl)
    have hE : ((k : Int) == 0) = true := by rw [hz]; rfl
    clear h1 hk hz
    go_enter Tryd.func65, Tryd.ntmps65
    go_wp2_with fail
    go_ret
    exact ⟨by rw [HR.out]; rfl, rfl⟩
  · have HR : Hid (Rfc.pow2 m = false) := Lib.hid (by unfold Rfc.pow2; rw [← hk]; simp [hz])
    have hE : ((k : Int) == 0) = false := by rw [beq_eq_false_iff_ne]; omega
    clear h1 hk hz
    go_enter Tryd.func65, Tryd.ntmps65
    go_wp2_with fail
    go_ret
    exact ⟨by rw [HR.out]; rfl, rfl⟩
theorem infoCl (a b : Nat) : (Tryd.prog.info? 118).map (·.size) = some (#[Value.int .i64 (a : Int), .int .i64 (b : Int)] : Array Value).size := by kernel_rfl
set_option maxRecDepth 100000 in
set_option maxHeartbeats 2000000 in
theorem up16_any (a b : Nat) (w : World) (ha : a < 9223372036854775808) (hb : b < 9223372036854775808) (hr : a % 2 = 1 ∨ a = b) (h0 : a ≠ 0) :
    Calls Tryd.prog 63 #[.agg #[.int .i64 a, .int .i64 b]] w fun e w' => e = .returned (.agg #[.int .i64 (Rfc.next a b).1, .int .i64 (Rfc.next a b).2]) ∧ Below w.heap.size w w' := by
  have h1 := and_one a ha
  by_cases ho : a % 2 = 1
  · have HN : Hid (Rfc.next a b = (a / 2, b / 2)) := Lib.hid (by unfold Rfc.next; rw [if_neg (by omega)])
    rw [ho] at h1
    have h2 : bits .and .i64 (a : Int) (1 : Int) = 1 := h1
    have h3 : (a : Int) / 2 = ((a / 2 : Nat) : Int) := by omega
    clear h1 ho hr h3
    go_enter Tryd.func63, Tryd.ntmps63
    go_wp2_with fail
    refine bodyPost_ret (v := .agg #[.int .i64 ((a : Int) / 2), .int .i64 ((b : Int) / 2)]) (results_cell_row (P := Tryd.prog) rfl _ _ (w.heap.size + 1) 118 #[.int .i64 ((a : Int) / 2), .int .i64 ((b : Int) / 2)] (0, 0) _ rfl (Rg.heap_alloc_at _ _ _ (by simp)) Tryd.underlying118 rfl (infoCl (a / 2) (b / 2))) rfl ⟨?_, ((Below.refl _ _).alloc (Nat.le_refl _) _).alloc (by simp) _⟩
    rw [HN.out]
    rfl
  · obtain rfl : a = b := by omega
    have h2 : bits .and .i64 (a : Int) (1 : Int) = 0 := by rw [h1]; omega
    clear h1
    go_enter Tryd.func63, Tryd.ntmps63
    have HN : Hid (Rfc.next a a = ((Rfc.strip a a a).1 / 2, (Rfc.strip a a a).2 / 2)) := Lib.hid (by unfold Rfc.next; rw [if_pos ⟨by omega, rfl⟩])
    clear hr ho
    go_wp2_with fail
    go_loopw [] (fun wr => ∃ x f : Nat, x ≤ f ∧ x < 9223372036854775808 ∧ Hid (Rfc.strip f x x = Rfc.strip a a a) ∧ wr = (w.alloc (.cells #[.int .i64 (x : Int), .int .i64 (x : Int)] 118)).alloc (.cells #[.int .i64 0, .int .i64 0] 118)) (fun wr => (intOf ((wr.cell? ⟨w.heap.size, 0, none⟩).getD undef)).toNat)
    case atStart => exact ⟨a, a, Nat.le_refl _, ha, Lib.hid rfl, rfl⟩
    case round =>
      obtain ⟨x, f, hxf, hxl, HS, rfl⟩ := hrel
      have hx1 := and_one x hxl
      have hcell : ∀ y : Int, ((w.alloc (.cells #[.int .i64 y, .int .i64 y] 118)).alloc (.cells #[.int .i64 0, .int .i64 0] 118)).cell? ⟨w.heap.size, 0, none⟩ = some (.int .i64 y) := fun y =>
        (cell_of_row _ _ _ _ _ _ ((Rg.heap_alloc_past (w.alloc (.cells #[.int .i64 y, .int .i64 y] 118)) _ w.heap.size (by simp)).trans (Rg.heap_alloc_at w (.cells #[.int .i64 y, .int .i64 y] 118) _ rfl))).trans rfl
      have HC := Lib.hid hcell
      clear hcell
      by_cases hx0 : x = 0
      · have hne : ((x : Int) != 0) = false := by rw [hx0]; rfl
        have HE : Hid (Rfc.next a a = (x / 2, x / 2)) := Lib.hid (by
          have h : Rfc.strip f x x = (x, x) := by
            cases f with
            | zero => rfl
            | succ f => rw [Rfc.strip, if_neg (by omega)]
          rw [HN.out, ← HS.out, h])
        clear hx1
        (try clear hxo)
        (try clear hx0)
        go_wp2_with fail
        refine bodyPost_ret (v := .agg #[.int .i64 ((x : Int) / 2), .int .i64 ((x : Int) / 2)]) (results_cell_row (P := Tryd.prog) rfl _ _ (w.heap.size + 1) 118 #[.int .i64 ((x : Int) / 2), .int .i64 ((x : Int) / 2)] (0, 0) _ rfl (Rg.heap_alloc_at _ _ _ (by simp)) Tryd.underlying118 rfl (infoCl (x / 2) (x / 2))) rfl ⟨?_, ((Below.refl _ _).alloc (Nat.le_refl _) _).alloc (by simp) _⟩
        rw [HE.out]
        rfl
      · have hne : ((x : Int) != 0) = true := by rw [bne_iff_ne]; omega
        by_cases hxo : x % 2 = 1
        · have hx2 : bits .and .i64 (x : Int) (1 : Int) = 1 := by rw [hx1, hxo]; rfl
          have HE : Hid (Rfc.next a a = (x / 2, x / 2)) := Lib.hid (by
            have h : Rfc.strip f x x = (x, x) := by
              cases f with
              | zero => rfl
              | succ f => rw [Rfc.strip, if_neg (by omega)]
            rw [HN.out, ← HS.out, h])
          clear hx1
          (try clear hxo)
          (try clear hx0)
          go_wp2_with fail
          refine bodyPost_ret (v := .agg #[.int .i64 ((x : Int) / 2), .int .i64 ((x : Int) / 2)]) (results_cell_row (P := Tryd.prog) rfl _ _ (w.heap.size + 1) 118 #[.int .i64 ((x : Int) / 2), .int .i64 ((x : Int) / 2)] (0, 0) _ rfl (Rg.heap_alloc_at _ _ _ (by simp)) Tryd.underlying118 rfl (infoCl (x / 2) (x / 2))) rfl ⟨?_, ((Below.refl _ _).alloc (Nat.le_refl _) _).alloc (by simp) _⟩
          rw [HE.out]
          rfl
        · have hx2 : bits .and .i64 (x : Int) (1 : Int) = 0 := by rw [hx1]; omega
          clear hx1
          go_wp2_with fail
          obtain ⟨f, rfl⟩ : ∃ g, f = g + 1 := ⟨f - 1, by omega⟩
          refine ⟨⟨x / 2, f, by omega, by omega, Lib.hid (by rw [← HS.out, Rfc.strip, if_pos ⟨hx0, by omega⟩]), rfl⟩, ?_⟩
          rw [HC.out, HC.out]
          show ((x : Int) / 2).toNat < (x : Int).toNat
          omega
end Ref
end Go.Proofs.YtkembhonfehlbaaDoor

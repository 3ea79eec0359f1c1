/- The walks of the schedule's Add where it errs. -/
import Derived.Test.YtmkoiddfkanmiaaCadJ
namespace Go.Proofs.Ytmkoiddfkanmiaa
open Go.RowKit Bits Mem Sha
namespace Cad
set_option maxRecDepth 100000 in
set_option maxHeartbeats 2000000 in
theorem add_bad (sb : Nat) (p a : Int) (id : List UInt8) (w : World) (h : p < 1 ∨ 1000 < p ∨ a < 0) :
    Calls Try.prog 7 #[.pointer (some ⟨sb, 0, none⟩), .string ⟨id.toArray⟩, .int .i64 p, .int .i64 a] w fun e w' => e = .returned (.int .i64 1) ∧ w' = w := by
  by_cases h1 : p < 1
  · clear h
    go_enter Try.func7, Try.ntmps7
    go_wp2_with fail
    go_ret
    exact ⟨rfl, rfl⟩
  · have n1 : (p < 1) = False := by simp; omega
    by_cases h2 : 1000 < p
    · clear h h1
      go_enter Try.func7, Try.ntmps7
      go_wp2_with fail
      go_ret
      exact ⟨rfl, rfl⟩
    · have n2 : (1000 < p) = False := by simp; omega
      have h3 : a < 0 := by omega
      clear h h1 h2
      go_enter Try.func7, Try.ntmps7
      go_wp2_with fail
      go_ret
      exact ⟨rfl, rfl⟩
set_option maxRecDepth 100000 in
set_option maxHeartbeats 2000000 in
theorem add_held (sb base : Nat) (q : Option Addr) (c : Nat) (now : Int) (L : List One) (p a : Int) (id : List UInt8) (w : World) (h : SchedAt w sb base q c now L) (hl : L.length ≤ 1000000) (hm : Mono L id) (hf : ∀ n, Stands L id n → foundAt L id n = true) (hp1 : 1 ≤ p) (hp2 : p ≤ 1000) (ha : 0 ≤ a) :
    Calls Try.prog 7 #[.pointer (some ⟨sb, 0, none⟩), .string ⟨id.toArray⟩, .int .i64 p, .int .i64 a] w fun e w' => e = .returned (.int .i64 11) ∧ Below w.heap.size w w' := by
  have HB := Lib.hid (find_any sb base q c now L id w h hl hm)
  have HF := Lib.hid hf
  clear h hm hf
  have n1 : (p < 1) = False := by simp; omega
  have n2 : (1000 < p) = False := by simp; omega
  have n3 : (a < 0) = False := by simp; omega
  go_enter Try.func7, Try.ntmps7
  go_wp2_with fail
  refine HB.out.mono ?_
  rintro e w2 ⟨n, hs, rfl, hb⟩
  rw [HF.out n hs]
  have HX := Lib.hid hb
  clear hs hb
  go_wp2_with fail
  go_ret
  exact ⟨rfl, HX.out⟩
end Cad
end Go.Proofs.Ytmkoiddfkanmiaa

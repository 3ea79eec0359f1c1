/- The walks of custumallaw03.marks and custumalref03.Of. -/
import Derived.Test.YtmcjjionfmdioaaDoorMacO
namespace Go.Proofs.YtmcjjionfmdioaaDoor
open Go.RowKit Bits Mem Sha
namespace Ref
def jefe : List UInt8 := [74, 101, 102, 101]
def wants : List UInt8 := [119, 104, 97, 116, 32, 100, 111, 32, 121, 97, 32, 119, 97, 110, 116, 32]
def nothing : List UInt8 := [102, 111, 114, 32, 110, 111, 116, 104, 105, 110, 103, 63]
theorem hmac_jefe : bt (hmac jefe (wants ++ nothing)) 0 = 91 ∧ bt (hmac jefe (wants ++ nothing)) 1 = 220 ∧ bt (hmac jefe (wants ++ nothing)) 31 = 67 := by decide +kernel
theorem Rd_marked (w : World) (l : List UInt8) (n : Nat) (cs : Array Value) (hcs : cs = (bys l).toArray) (hn : l.length = n) (hm : n ≤ maxLen) : Rd (w.alloc (.cells cs 5 (n, n + 1))) 1 (.slice (some ⟨w.heap.size, 0, none⟩) n n) n (bys l) := by
  subst hcs hn
  have h := Ow.lit_marked w (bys l).toArray 5 1 l.length 0 (Nat.zero_le _) hm (by simp [bys])
  have e : (bys l).toArray.size = l.length := by simp [bys]
  rw [e] at h
  exact Rd.of_ow h
theorem lit_jefe : (#[.int .u8 74, .int .u8 101, .int .u8 102, .int .u8 101] : Array Value) = (bys jefe).toArray := rfl
theorem lit_wants : (#[.int .u8 119, .int .u8 104, .int .u8 97, .int .u8 116, .int .u8 32, .int .u8 100, .int .u8 111, .int .u8 32, .int .u8 121, .int .u8 97, .int .u8 32, .int .u8 119, .int .u8 97, .int .u8 110, .int .u8 116, .int .u8 32] : Array Value) = (bys wants).toArray := rfl
theorem lit_nothing : (#[.int .u8 102, .int .u8 111, .int .u8 114, .int .u8 32, .int .u8 110, .int .u8 111, .int .u8 116, .int .u8 104, .int .u8 105, .int .u8 110, .int .u8 103, .int .u8 63] : Array Value) = (bys nothing).toArray := rfl
set_option maxRecDepth 100000 in
set_option maxHeartbeats 1000000 in
theorem marks_any (w : World) (hT : Sha.Tabs w) : Calls Tryd.prog 40 #[] w fun e w' => e = .returned (.bool true) ∧ Below w.heap.size w w' := by
  have HT := Lib.hid hT; clear hT
  go_enter Tryd.func40, Tryd.ntmps40
  go_wp2_with (refine conv_lit rfl 28 _ rfl 5 Tryd.underlying28 Tryd.underlying5 _ _ _ rfl _ _ rfl (by simp) ?_)
  have hx1 : Below w.heap.size w (w.alloc (.cells (bys jefe).toArray 5 (4, 5))) := (Below.refl _ _).alloc (Nat.le_refl _) _
  have hr1 := Rd_marked w jefe 4 _ rfl rfl (by decide)
  obtain ⟨x1, hx1e⟩ : ∃ x1, x1 = w.alloc (.cells (bys jefe).toArray 5 (4, 5)) := ⟨_, rfl⟩
  have hs1 : x1.heap.size = w.heap.size + 1 := by rw [hx1e]; simp
  rw [← hx1e] at hx1 hr1
  have hx2 : Below x1.heap.size x1 (x1.alloc (.cells (bys wants).toArray 5 (16, 17))) := (Below.refl _ _).alloc (Nat.le_refl _) _
  have hr2 := Rd_marked x1 wants 16 _ rfl rfl (by decide)
  obtain ⟨x2, hx2e⟩ : ∃ x2, x2 = x1.alloc (.cells (bys wants).toArray 5 (16, 17)) := ⟨_, rfl⟩
  have hs2 : x2.heap.size = w.heap.size + 1 + 1 := by rw [hx2e, World.size_alloc, hs1]
  rw [← hx2e] at hx2 hr2
  have hx3 : Below x2.heap.size x2 (x2.alloc (.cells (bys nothing).toArray 5 (12, 13))) := (Below.refl _ _).alloc (Nat.le_refl _) _
  have hr3 := Rd_marked x2 nothing 12 _ rfl rfl (by decide)
  obtain ⟨x3, hx3e⟩ : ∃ x3, x3 = x2.alloc (.cells (bys nothing).toArray 5 (12, 13)) := ⟨_, rfl⟩
  have hs3 : x3.heap.size = w.heap.size + 1 + 1 + 1 := by rw [hx3e, World.size_alloc, hs2]
  rw [← hx3e] at hx3 hr3
  have hp := Parts.lit2 x3 wants nothing _ _ ⟨_, _, rfl, (hr2.below hx3)⟩ ⟨_, _, rfl, hr3⟩
  rw [lit_jefe, lit_wants, lit_nothing, ← hx1e, ← hx2e, ← hx3e, ← hs3, ← hs2, ← hs1]
  have hb3 : Below w.heap.size w x3 := (hx1.trans (hx2.mono hx1.size)).trans (hx3.mono (Nat.le_trans hx1.size hx2.size))
  have hr1' := (hr1.below (hx2.trans (hx3.mono hx2.size)))
  clear hx1e hx2e hx3e hs1 hs2 hs3 hr1 hr2 hr3
  have hx4 : Below x3.heap.size x3 (x3.alloc (.cells #[.slice (some ⟨x1.heap.size, 0, none⟩) 16 16, .slice (some ⟨x2.heap.size, 0, none⟩) 12 12] 28)) := (Below.refl _ _).alloc (Nat.le_refl _) _
  refine (of_any _ _ jefe _ _ [wants, nothing] _ (HT.out.below (hb3.trans (hx4.mono hb3.size))) (hr1'.below hx4) hp (by decide) (by decide)).mono ?_
  rintro e w1 ⟨rfl, hb1⟩
  have h14 : Below x3.heap.size x3 w1 := hx4.trans (hb1.mono hx4.size)
  have HB1 := Lib.hid (hb3.trans (h14.mono hb3.size))
  have hF : [wants, nothing].flatten = wants ++ nothing := by simp
  rw [hF]
  clear hF hb1 h14 hx4 hr1' hb3 hp hx1 hx2 hx3
  have HS := Lib.hid (hmac_length jefe (wants ++ nothing))
  have HI : Hid ((Tryd.prog.info? 25).map (·.size) = some (bysA (hmac jefe (wants ++ nothing))).size) := Lib.hid (by rw [bysA_size, hmac_length]; exact info32)
  have hwv := Rg.heap_alloc_at w1 (.cells (bysA (hmac jefe (wants ++ nothing))) 25) w1.heap.size rfl
  have c0 := cell_of_bys hwv (k := 0) (by rw [hmac_length]; decide)
  have c1 := cell_of_bys hwv (k := 1) (by rw [hmac_length]; decide)
  have c31 := cell_of_bys hwv (k := 31) (by rw [hmac_length]; decide)
  rw [hmac_jefe.1] at c0
  rw [hmac_jefe.2.1] at c1
  rw [hmac_jefe.2.2] at c31
  clear hwv
  generalize hmac jefe (wants ++ nothing) = S at *
  go_wp2_with (refine Rg.store_row_new rfl 25 _ _ rfl w1.heap.size rfl rfl 25 _ (bysA S) rfl HI.out (by rw [bysA_size, HS.out]; rfl) (bysA_one _) ?_)
  go_ret
  exact ⟨rfl, HB1.out.alloc HB1.out.size _⟩
end Ref
end Go.Proofs.YtmcjjionfmdioaaDoor

/- The walk of custumallaw17.binds. -/
import Derived.Test.YtkembhonfehlbaaDoorCommitK
namespace Go.Proofs.YtkembhonfehlbaaDoor
open Go.RowKit Bits Mem Sha
namespace Ref
def one32 (x : UInt8) : List UInt8 := x :: List.replicate 31 0
theorem one32_length (x : UInt8) : (one32 x).length = 32 := rfl
theorem z32_1 : (#[.int .u8 1, .int .u8 0, .int .u8 0, .int .u8 0, .int .u8 0, .int .u8 0, .int .u8 0, .int .u8 0, .int .u8 0, .int .u8 0, .int .u8 0, .int .u8 0, .int .u8 0, .int .u8 0, .int .u8 0, .int .u8 0, .int .u8 0, .int .u8 0, .int .u8 0, .int .u8 0, .int .u8 0, .int .u8 0, .int .u8 0, .int .u8 0, .int .u8 0, .int .u8 0, .int .u8 0, .int .u8 0, .int .u8 0, .int .u8 0, .int .u8 0, .int .u8 0] : Array Value) = bysA (one32 1) := rfl
theorem z32_2 : (#[.int .u8 2, .int .u8 0, .int .u8 0, .int .u8 0, .int .u8 0, .int .u8 0, .int .u8 0, .int .u8 0, .int .u8 0, .int .u8 0, .int .u8 0, .int .u8 0, .int .u8 0, .int .u8 0, .int .u8 0, .int .u8 0, .int .u8 0, .int .u8 0, .int .u8 0, .int .u8 0, .int .u8 0, .int .u8 0, .int .u8 0, .int .u8 0, .int .u8 0, .int .u8 0, .int .u8 0, .int .u8 0, .int .u8 0, .int .u8 0, .int .u8 0, .int .u8 0] : Array Value) = bysA (one32 2) := rfl
theorem binds_bad : (bound (opener (one32 1) (one32 2) 3) (one32 2) 3 [119] == bound (opener (one32 1) (one32 2) 3) (one32 2) 3 [118]) = false := by decide +kernel
set_option maxRecDepth 100000 in
set_option maxHeartbeats 4000000 in
theorem binds_any (w : World) (hS : Sha.Tabs w) : Calls Tryd.prog 15 #[] w fun e w' => e = .returned (.bool true) ∧ Below w.heap.size w w' := by
  have HS := Lib.hid hS
  clear hS
  go_enter Tryd.func15, Tryd.ntmps15
  go_wp2_with (refine conv_lit rfl 23 _ rfl 5 Tryd.underlying23 Tryd.underlying5 _ _ _ rfl _ _ rfl (by simp) ?_)
  rw [z32_1, z32_2]
  obtain ⟨I, hI⟩ : ∃ I, I = one32 2 := ⟨_, rfl⟩
  obtain ⟨J, hJ⟩ : ∃ J, J = one32 1 := ⟨_, rfl⟩
  have hIl : I.length = 32 := by rw [hI]; rfl
  have hJl : J.length = 32 := by rw [hJ]; rfl
  have hbad := binds_bad
  rw [← hI, ← hJ] at hbad
  rw [← hI, ← hJ]
  have HII := Lib.hid hI
  have HIL := Lib.hid hIl
  clear hI hJ hIl
  obtain ⟨O, hO⟩ : ∃ O, O = opener J I 3 := ⟨_, rfl⟩
  have hOl : O.length = 32 := by rw [hO]; exact hmac_length _ _
  rw [← hO] at hbad
  obtain ⟨M, hM⟩ : ∃ M, M = bound O I 3 [118] := ⟨_, rfl⟩
  have hMl : M.length = 32 := by rw [hM]; exact hmac_length _ _
  rw [← hM] at hbad
  have HC0 : Hid (cchk M O I 3 [118] = 0) := Lib.hid (by unfold cchk; rw [← hM, if_pos (by simp)])
  have HC1 : Hid (cchk M O I 3 [119] = 17) := Lib.hid (by unfold cchk; rw [hbad]; rfl)
  have hx1 : Below w.heap.size w (w.alloc (.cells #[.int .u8 118] 5 (1, 2))) := (Below.refl _ _).alloc (Nat.le_refl _) _
  have hr1 := Rd_marked w [118] 1 #[.int .u8 118] rfl rfl (by decide)
  have hmk := make_any J I 3 (some ⟨w.heap.size, 0, none⟩) 1 [118] _ (HS.out.below hx1) hJl HIL.out hr1 (by decide)
  rw [← hO, ← hM] at hmk
  have HOL := Lib.hid hOl
  have HML := Lib.hid hMl
  have HIM : Hid ((Tryd.prog.info? 22).map (·.size) = some (bysA M).size) := Lib.hid (by rw [bysA_size, hMl]; exact info32)
  have HIO : Hid ((Tryd.prog.info? 22).map (·.size) = some (bysA O).size) := Lib.hid (by rw [bysA_size, hOl]; exact info32)
  have HX1 := Lib.hid hx1
  clear hbad hO hM hOl hMl hJl hx1 hr1
  refine hmk.mono ?_
  clear hmk
  rintro e w2 ⟨rfl, hb2⟩
  have hB2 := HX1.out.trans (hb2.mono HX1.out.size)
  obtain ⟨w3, hw3⟩ : ∃ w3, w3 = (w2.alloc (.cells (bysA zeros32) 22)).alloc (.cells (bysA zeros32) 22) := ⟨_, rfl⟩
  have hb3 : Below w2.heap.size w2 w3 := by rw [hw3]; exact ((Below.refl _ _).alloc (Nat.le_refl _) _).alloc (by simp) _
  have hr1 : w3.heap[w2.heap.size]? = some (.cells (bysA zeros32) 22 (0, 0)) := by rw [hw3]; exact (Rg.heap_alloc_past _ _ _ (by simp)).trans (Rg.heap_alloc_at _ _ _ rfl)
  have hr2 : w3.heap[w2.heap.size + 1]? = some (.cells (bysA zeros32) 22 (0, 0)) := by rw [hw3]; exact Rg.heap_alloc_at _ _ _ (by simp)
  have hr3 := (setRow_other w3 w2.heap.size (w2.heap.size + 1) (bysA M) (by omega)).trans hr2
  have hr4 := (setRow_other (w3.setRow w2.heap.size (bysA M)) (w2.heap.size + 1) w2.heap.size (bysA O) (by omega)).trans (setRow_heap w3 w2.heap.size _ (bysA M) _ _ hr1)
  have hr5 := setRow_heap (w3.setRow w2.heap.size (bysA M)) (w2.heap.size + 1) _ (bysA O) _ _ hr3
  have hb5 := Rg.below_setRow (Rg.below_setRow (hB2.trans (hb3.mono hB2.size)) hB2.size (bysA M)) (Nat.le_succ_of_le hB2.size) (bysA O)
  have HW3 := Lib.hid hw3
  have HR1 := Lib.hid hr1
  have HR3 := Lib.hid hr3
  have HR4 := Lib.hid hr4
  have HR5 := Lib.hid hr5
  have HB5 := Lib.hid hb5
  clear hb2 hB2 hw3 hb3 hr1 hr2 hr3 hr4 hr5 hb5 HX1
  go_wp2_with (first | (rw [z32, ← HW3.out]; refine Rg.store_row rfl 22 _ _ rfl w2.heap.size rfl 22 (bysA zeros32) (bysA M) rfl HR1.out HIM.out (by rw [bysA_size, bysA_size, HML.out]; rfl) (bysA_one _) ?_) | (refine Rg.store_row rfl 22 _ _ rfl (w2.heap.size + 1) rfl 22 (bysA zeros32) (bysA O) rfl HR3.out HIO.out (by rw [bysA_size, bysA_size, HOL.out]; rfl) (bysA_one _) ?_) | (refine wpList_load_row rfl 22 _ rfl w2.heap.size rfl 22 (bysA M) (0, 0) _ HR4.out Tryd.underlying22 rfl HIM.out ?_) | (refine wpList_load_row rfl 22 _ rfl (w2.heap.size + 1) rfl 22 (bysA O) (0, 0) _ HR5.out Tryd.underlying22 rfl HIO.out ?_) | (refine conv_lit rfl 23 _ rfl 5 Tryd.underlying23 Tryd.underlying5 _ _ _ rfl _ _ rfl (by simp) ?_))
  rw [z32_2, ← HII.out]
  obtain ⟨w5, hw5⟩ : ∃ w5, w5 = (w3.setRow w2.heap.size (bysA M)).setRow (w2.heap.size + 1) (bysA O) := ⟨_, rfl⟩
  have hr4 := HR4.out
  have hr5 := HR5.out
  have hb5 : Below w.heap.size w w5 := by rw [hw5]; exact HB5.out
  rw [← hw5] at hr4 hr5 ⊢
  have hx6 : Below w5.heap.size w5 (w5.alloc (.cells #[.int .u8 118] 5 (1, 2))) := (Below.refl _ _).alloc (Nat.le_refl _) _
  have hsz : w3.heap.size = w5.heap.size := by rw [hw5]; simp
  rw [hsz]
  have hck := ccheck_any M O I 3 (some ⟨w5.heap.size, 0, none⟩) 1 [118] _ (HS.out.below (hb5.trans (hx6.mono hb5.size))) HML.out HOL.out HIL.out (Rd_marked w5 [118] 1 #[.int .u8 118] rfl rfl (by decide)) (by decide)
  rw [HC0.out] at hck
  have HR4' := Lib.hid hr4
  have HR5' := Lib.hid hr5
  have HB5' := Lib.hid hb5
  have HX6 := Lib.hid hx6
  clear hr4 hr5 hb5 hx6 hsz hw5 HR1 HR3 HR4 HR5 HB5 HW3
  refine hck.mono ?_
  clear hck
  rintro e w7 ⟨rfl, hb7⟩
  have hb57 : Below w5.heap.size w5 w7 := HX6.out.trans (hb7.mono HX6.out.size)
  have HR4 := Lib.hid (Rp.row_le hb57 HR4'.out)
  have HR5 := Lib.hid (Rp.row_le hb57 HR5'.out)
  have HB7 := Lib.hid (HB5'.out.trans (hb57.mono HB5'.out.size))
  clear hb7 hb57 HR4' HR5' HB5' HX6
  go_wp2_with (first | (refine unguard (by rfl) ?_; refine wpList_load_row rfl 22 _ rfl w2.heap.size rfl 22 (bysA M) (0, 0) _ HR4.out Tryd.underlying22 rfl HIM.out ?_) | (refine unguard (by rfl) ?_; refine wpList_load_row rfl 22 _ rfl (w2.heap.size + 1) rfl 22 (bysA O) (0, 0) _ HR5.out Tryd.underlying22 rfl HIO.out ?_) | (refine unguard (by rfl) ?_; refine conv_lit rfl 23 _ rfl 5 Tryd.underlying23 Tryd.underlying5 _ _ _ rfl _ _ rfl (by simp) ?_))
  rw [z32_2, ← HII.out]
  have hx8 : Below w7.heap.size w7 (w7.alloc (.cells #[.int .u8 119] 5 (1, 2))) := (Below.refl _ _).alloc (Nat.le_refl _) _
  have hck := ccheck_any M O I 3 (some ⟨w7.heap.size, 0, none⟩) 1 [119] _ (HS.out.below (HB7.out.trans (hx8.mono HB7.out.size))) HML.out HOL.out HIL.out (Rd_marked w7 [119] 1 #[.int .u8 119] rfl rfl (by decide)) (by decide)
  rw [HC1.out] at hck
  have HX8 := Lib.hid hx8
  clear hx8
  refine hck.mono ?_
  clear hck
  rintro e w9 ⟨rfl, hb9⟩
  have HB9 := Lib.hid (HB7.out.trans ((HX8.out.trans (hb9.mono HX8.out.size)).mono HB7.out.size))
  clear hb9 HX8 HR4 HR5
  go_wp2_with fail
  go_ret
  exact ⟨rfl, HB9.out⟩
end Ref
end Go.Proofs.YtkembhonfehlbaaDoor

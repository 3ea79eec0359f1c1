/- The walk of a directory's New: what it yields lies in new blocks. -/
import Derived.Test.YtmkoiddfkanmiaaDoorShaF
import Derived.Test.YtmkoiddfkanmiaaDoorPerm
import Derived.Test.YtmkoiddfkanmiaaDoorSlI
import Derived.Test.YtmkoiddfkanmiaaDoorGCadJ
import Derived.Test.YtmkoiddfkanmiaaDoorConE
import Derived.Test.YtmkoiddfkanmiaaDoorTenF
import Derived.Test.YtmkoiddfkanmiaaDoorL32P
namespace Go.Proofs.YtmkoiddfkanmiaaDoor
open Go.RowKit Bits Mem Sha
theorem Re.own_set {w : World} {q : Nat → Prop} {i : Nat} {spec : List Re.Sp} (hq : ∀ k, q k → k < w.heap.size) (h : ∀ s ∈ spec, s.own = Re.free ∨ (s.ix = i ∧ s.own = q)) : Re.Own (fun k => k < w.heap.size ∧ ¬ q k) w spec :=
  ⟨fun k hk => hk.1, fun j s hs k hk => by
    rcases h s (Re.look_mem hs).1 with h | ⟨_, h⟩
    · rw [h] at hk; exact hk.elim
    · rw [h] at hk; exact ⟨fun hp => hp.2 hk, hq k hk⟩, fun j m s t hs ht hne k hk hk' => by
    obtain ⟨hs1, hs2⟩ := Re.look_mem hs
    obtain ⟨ht1, ht2⟩ := Re.look_mem ht
    rcases h s hs1 with h1 | ⟨h1, _⟩
    · rw [h1] at hk; exact hk
    · rcases h t ht1 with h2 | ⟨h2, _⟩
      · rw [h2] at hk'; exact hk'
      · exact hne (by rw [← hs2, ← ht2, h1, h2])⟩
theorem Mem.l_makeMap {P : Program} {ops : Array Oper} {Q : Exit → Act → World → Prop} {a : Act} {w : World} {o : Oper} {rest : List Oper} (hg : o.guard = none) (t : TypeId) (ho : o.op = .makeMap t none)
    (h : wpList P ops Q rest (a.put o.dst (.map (some w.heap.size))) (w.alloc (.map #[] 0))) : wpList P ops Q (o :: rest) a w :=
  wpList_plain hg fun K hK => by
    have hr : (Instr.makeMap t none).run P w = .ok (.map (some w.heap.size)) (w.alloc (.map #[] 0)) := rfl
    unfold Oper.wp execOp
    simp only [ho, Option.map_none, Sem.run_bind, hr, Result.andThen_ok, Sem.run_pure]
    exact hK _ _ h
namespace Rc
section
variable {P : Program} {ops : Array Oper} {Q : Exit → Act → World → Prop} {B : Nat} {w : World} {spec : List Sp} {fin : List Nat} {tail : List Oper} {p : Nat → Par} {j : Nat} {o : Oper} {r : List Oper} {a : Act}
theorem r_buildT (hl : look spec j = none) (hw : Region.wanted o (yielded ops a.tmps) = true) (t : TypeId) (parts : Array (Nat × Operand)) (ho : o.op = .build t parts) (cs : Array Value)
    (hb : P.built t (parts.map fun (i, x) => (i, a.eval x)).toList = some cs)
    (h : ∀ K : Act → Prop, (∀ a, wpSeq P ops Q B w spec fin tail p (j + 1) r a → K a) → K (a.put o.dst (.agg cs))) : wpSeq P ops Q B w spec fin tail p j (o :: r) a :=
  r_run _ hl hw (fun x _ => by unfold execOp; simp only [ho, Sem.run_bind, run_build x t _ cs hb, Result.andThen_ok, Sem.run_pure]) h
end
end Rc
namespace Ten
theorem z32T : (#[.int .u8 0, .int .u8 0, .int .u8 0, .int .u8 0, .int .u8 0, .int .u8 0, .int .u8 0, .int .u8 0, .int .u8 0, .int .u8 0, .int .u8 0, .int .u8 0, .int .u8 0, .int .u8 0, .int .u8 0, .int .u8 0, .int .u8 0, .int .u8 0, .int .u8 0, .int .u8 0, .int .u8 0, .int .u8 0, .int .u8 0, .int .u8 0, .int .u8 0, .int .u8 0, .int .u8 0, .int .u8 0, .int .u8 0, .int .u8 0, .int .u8 0, .int .u8 0] : Array Value) = bysA zeros32 := rfl
/-- The sums of the log. -/
def nodeS (a b : List UInt8) : List UInt8 := sha (1 :: (a ++ b))
def leafS (l : List UInt8) : List UInt8 := sha (0 :: l)
theorem lit2T (w : World) (a b : List UInt8) (x y : Value) (hx : ∃ q c, x = .slice q a.length c ∧ Rd w 1 (.slice q a.length c) a.length (bys a)) (hy : ∃ q c, y = .slice q b.length c ∧ Rd w 1 (.slice q b.length c) b.length (bys b)) :
    Parts (w.alloc (.cells #[x, y] 24)) (.slice (some ⟨w.heap.size, 0, none⟩) 2 2) [a, b] := by
  have hb : Below w.heap.size w (w.alloc (.cells #[x, y] 24)) := (Below.refl _ _).alloc (Nat.le_refl _) _
  refine ⟨[x, y], Rd_lit w #[x, y] 24 1 2 rfl (by decide), fun i hi => ?_⟩
  obtain ⟨q, c, rfl, hx⟩ := hx
  obtain ⟨q', c', rfl, hy⟩ := hy
  match i, hi with
  | 0, _ => exact ⟨q, c, rfl, hx.below hb⟩
  | 1, _ => exact ⟨q', c', rfl, hy.below hb⟩
set_option maxRecDepth 100000 in
set_option maxHeartbeats 1000000 in
theorem firstT_any (q : Option Addr) (c : Nat) (l : List UInt8) (w : World) (hS : Sha.Tabs w) (hl : Rd w 1 (.slice q l.length c) l.length (bys l)) (h : l.length ≤ 1000000) :
    Calls Tryd.prog 47 #[.slice q l.length c] w fun e w' => e = .returned (.agg (bysA (sha (4 :: l)))) ∧ Below w.heap.size w w' := by
  have HS := Lib.hid hS
  have HL := Lib.hid hl
  clear hS hl
  go_enter Tryd.func47, Tryd.ntmps47
  go_wp2_with fail
  rw [z32T]
  have hrz : (w.alloc (.cells (bysA zeros32) 42)).heap[w.heap.size]? = some (.cells (bysA zeros32) 42 (0, 0)) := Rg.heap_alloc_at w _ _ rfl
  have hw1 : Below w.heap.size w (w.alloc (.cells (bysA zeros32) 42)) := (Below.refl _ _).alloc (Nat.le_refl _) _
  obtain ⟨w1, hw1e⟩ : ∃ w1, w1 = w.alloc (.cells (bysA zeros32) 42) := ⟨_, rfl⟩
  have hs1 : w1.heap.size = w.heap.size + 1 := by rw [hw1e]; simp
  rw [← hw1e] at hrz hw1
  rw [← hw1e]
  have hx2 : Below w1.heap.size w1 (w1.alloc (.cells #[.int .u8 4] 5)) := (Below.refl _ _).alloc (Nat.le_refl _) _
  have hr4 : Rd (w1.alloc (.cells #[.int .u8 4] 5)) 1 (.slice (some ⟨w1.heap.size, 0, none⟩) 1 1) 1 (bys [4]) := Rd_lit w1 #[.int .u8 4] 5 1 1 rfl (by decide)
  obtain ⟨w2, hw2e⟩ : ∃ w2, w2 = w1.alloc (.cells #[.int .u8 4] 5) := ⟨_, rfl⟩
  have hs2 : w2.heap.size = w.heap.size + 1 + 1 := by rw [hw2e, World.size_alloc, hs1]
  rw [← hw2e] at hx2 hr4
  rw [← hw2e, ← hs2, ← hs1]
  have h2 : Below w.heap.size w w2 := hw1.trans (hx2.mono hw1.size)
  have hp := lit2T w2 [4] l _ _ ⟨_, _, rfl, hr4⟩ ⟨_, _, rfl, HL.out.below h2⟩
  have hx3 : Below w2.heap.size w2 (w2.alloc (.cells #[.slice (some ⟨w1.heap.size, 0, none⟩) 1 1, .slice q l.length c] 24)) := (Below.refl _ _).alloc (Nat.le_refl _) _
  have hs := parts_any _ _ [[4], l] _ (HS.out.below (h2.trans (hx3.mono h2.size))) hp (by simp; omega)
  rw [show [[4], l].flatten = 4 :: l from by simp] at hs
  have HB2 := Lib.hid h2
  have HX3 := Lib.hid hx3
  have HRZ := Lib.hid (Rp.row_le hx2 hrz)
  clear hw1e hw2e hs1 hs2 hp hrz hw1 hx2 hr4 h2 hx3
  refine hs.mono ?_
  clear hs
  rintro e w3 ⟨rfl, hb3⟩
  have h23 : Below w2.heap.size w2 w3 := HX3.out.trans (hb3.mono HX3.out.size)
  have HB3 := Lib.hid (HB2.out.trans (h23.mono HB2.out.size))
  have HRZ3 := Lib.hid (Rp.row_le h23 HRZ.out)
  have HM := Lib.hid (sha_length (4 :: l))
  obtain ⟨R, hR⟩ : ∃ R, R = sha (4 :: l) := ⟨_, rfl⟩
  rw [← hR] at HM ⊢
  have HRR : Hid (R = sha (4 :: l)) := Lib.hid hR
  have HIM : Hid ((Tryd.prog.info? 42).map (·.size) = some (bysA R).size) := Lib.hid (by rw [bysA_size, HM.out]; exact info32)
  clear hR hb3 h23 HX3 HRZ
  go_wp2_with (refine Rg.store_row rfl 42 _ _ rfl w.heap.size rfl 42 (bysA zeros32) (bysA R) rfl HRZ3.out HIM.out (by rw [bysA_size, bysA_size, HM.out]; rfl) (bysA_one _) ?_)
  refine bodyPost_ret (v := .agg (bysA R)) (results_cell_row (P := Tryd.prog) rfl _ _ w.heap.size 42 (bysA R) (0, 0) _ rfl (setRow_heap _ _ _ _ 42 _ HRZ3.out) Tryd.underlying42 rfl HIM.out) rfl ⟨by rw [HRR.out], ?_⟩
  exact Rg.below_setRow HB3.out (Nat.le_refl _) _
set_option maxRecDepth 100000 in
set_option maxHeartbeats 1000000 in
theorem limits_any (w : World) : Calls Tryd.prog 17 #[] w fun e w' => e = .returned (.agg #[.int .i64 1, .int .i64 1, .int .i64 1]) ∧ Below w.heap.size w w' := by
  go_enter Tryd.func17, Tryd.ntmps17
  go_wp2_with fail
  exact bodyPost_ret (v := .agg #[.int .i64 1, .int .i64 1, .int .i64 1]) (results_cell_row (P := Tryd.prog) rfl _ _ w.heap.size 46 #[.int .i64 1, .int .i64 1, .int .i64 1] (0, 0) _ rfl (heap_alloc_new w _) Tryd.underlying46 rfl (by kernel_rfl)) rfl ⟨rfl, (Below.refl _ _).alloc (Nat.le_refl _) _⟩
/-- Is a number of a range? -/
def inB (n m : Int) : Bool := decide (1 ≤ n ∧ n ≤ m)
set_option maxRecDepth 100000 in
set_option maxHeartbeats 1000000 in
theorem within_any (n m : Int) (w : World) : Calls Tryd.prog 46 #[.int .i64 n, .int .i64 m] w fun e w' => e = .returned (.bool (inB n m)) ∧ w' = w := by
  by_cases h1 : 1 ≤ n
  · by_cases h2 : n ≤ m
    · have HV : Hid (inB n m = true) := Lib.hid (decide_eq_true ⟨h1, h2⟩)
      go_enter Tryd.func46, Tryd.ntmps46
      go_wp2_with fail
      go_ret
      exact ⟨by rw [HV.out]; rfl, rfl⟩
    · have HV : Hid (inB n m = false) := Lib.hid (decide_eq_false (fun e => h2 e.2))
      go_enter Tryd.func46, Tryd.ntmps46
      go_wp2_with fail
      go_ret
      exact ⟨by rw [HV.out]; rfl, rfl⟩
  · have HV : Hid (inB n m = false) := Lib.hid (decide_eq_false (fun e => h1 e.1))
    go_enter Tryd.func46, Tryd.ntmps46
    go_wp2_with fail
    go_ret
    exact ⟨by rw [HV.out]; rfl, rfl⟩
/-- A new directory's cells. -/
def dirA (q : Option Addr) (n c : Nat) (K : List UInt8) (m : Nat) : Array Value := #[.slice q n c] ++ bysA K ++ #[.int .i64 1, .int .i64 1, .int .i64 1, .map (some m), .slice none 0 0, .slice none 0 0, .slice none 0 0, .slice none 0 0]
theorem range_list64 (s : List UInt8) (h : s.length = 64) : (List.range 64).map (fun i => s.getD i 0) = s := by
  refine List.ext_getElem? fun j => ?_
  by_cases hj : j < 64
  · rw [List.getElem?_map, List.getElem?_range hj]
    simp [List.getElem?_eq_getElem (show j < s.length by omega)]
  · rw [List.getElem?_eq_none (by simp; omega), List.getElem?_eq_none (by omega)]
theorem dir_built0 (q : Option Addr) (n c m : Nat) (g : Nat → UInt8) : Tryd.prog.built 121 [(0, .slice q n c), (1, .agg (bysA ((List.range 64).map g))), (2, .agg #[.int .i64 1, .int .i64 1, .int .i64 1]), (3, .map (some m))] = some (dirA q n c ((List.range 64).map g) m) := by kernel_rfl
theorem dir_built (q : Option Addr) (n c m : Nat) (K : List UInt8) (h : K.length = 64) : Tryd.prog.built 121 [(0, .slice q n c), (1, .agg (bysA K)), (2, .agg #[.int .i64 1, .int .i64 1, .int .i64 1]), (3, .map (some m))] = some (dirA q n c K m) := by
  have := dir_built0 q n c m (fun i => K.getD i 0)
  rw [range_list64 K h] at this
  exact this
theorem dirA_size (q : Option Addr) (n c m : Nat) (K : List UInt8) (h : K.length = 64) : (dirA q n c K m).size = 73 := by simp [dirA, bysA_size, h]
theorem infoTree : (Tryd.prog.info? 178).map (fun i => (i.zero, i.size, i.bytes)) = some (some (.pointer none), 1, 8) := by kernel_rfl
theorem infoPuts : (Tryd.prog.info? 117).map (fun i => (i.zero, i.size, i.bytes)) = some (some (.slice none 0 0), 1, 24) := by kernel_rfl
theorem infoLink : (Tryd.prog.info? 42).map (fun i => (i.zero, i.size, i.bytes)) = some (some (.agg (bysA zeros32)), 32, 32) := by kernel_rfl
/-- A directory in memory, as far as its links are asked for. -/
def DirRow (w : World) (D : Nat) : Prop := ∃ cs : Array Value, w.heap[D]? = some (.cells cs 121 (0, 0)) ∧ cs.size = 73 ∧ cs[72]? = some (.slice none 0 0)
def DirRow0 (w : World) (D : Nat) : Prop := ∃ cs : Array Value, w.heap[D]? = some (.cells cs 121 (0, 0)) ∧ cs.size = 73 ∧ cs[70]? = some (.slice none 0 0) ∧ cs[71]? = some (.slice none 0 0) ∧ cs[72]? = some (.slice none 0 0)
theorem infoU8T : (Tryd.prog.info? 5).map (fun i => (i.zero, i.size, i.bytes)) = some (some (.int .u8 0), 1, 1) := by kernel_rfl
set_option maxRecDepth 100000 in
set_option maxHeartbeats 1000000 in
theorem clone_any (q : Option Addr) (c : Nat) (l : List UInt8) (w : World) (hl : Rd w 1 (.slice q l.length c) l.length (bys l)) (h : l.length ≤ 1000000) :
    Calls Tryd.prog 39 #[.slice q l.length c] w fun e w' => ∃ q' c', e = .returned (.slice q' l.length c') ∧ Ow w' w.heap.size 5 1 (.slice q' l.length c') l.length (bys l) ∧ Below w.heap.size w w' := by
  obtain ⟨i0, hi0, hz0, hz1, hz2⟩ := parts3M infoU8T
  have HL := Lib.hid hl
  clear hl
  cases q with
  | none =>
    obtain ⟨hl0, hc0⟩ : l = [] ∧ c = 0 := by
      rcases HL.out.2 with ⟨hv, h0⟩ | ⟨b, off, cap, hv, _⟩
      · injection hv with _ h1 h2; exact ⟨List.eq_nil_of_length_eq_zero h1, h2⟩
      · cases hv
    subst hl0 hc0
    have he : ∀ w : World, (binOp .eql 24 (.slice none 0 0) (.slice none 0 0)).run Tryd.prog w = .ok (.bool true) w := fun _ => rfl
    go_enter Tryd.func39, Tryd.ntmps39
    go_wp2_with fail
    go_ret
    exact ⟨none, 0, rfl, Ow.nil _ _ _ _, Below.refl _ _⟩
  | some a =>
    obtain ⟨wl, hwl⟩ : ∃ wl, wl = w.alloc (.cells #[] 5) := ⟨_, rfl⟩
    have hbl : Below w.heap.size w wl := by rw [hwl]; exact (Below.refl _ _).alloc (Nat.le_refl _) _
    have HO0 : Hid (Ow wl w.heap.size 5 1 (.slice (some ⟨w.heap.size, 0, none⟩) 0 0) 0 []) := Lib.hid (by rw [hwl]; exact Ow.lit w #[] 5 1 0 w.heap.size (Nat.le_refl _) (Nat.zero_le _) rfl)
    have HLL := Lib.hid (HL.out.below hbl)
    have HBL := Lib.hid hbl
    have HWL := Lib.hid hwl
    have hsz := hbl.size
    have he : ∀ w : World, (binOp .eql 24 (.slice (some a) l.length c) (.slice none 0 0)).run Tryd.prog w = .ok (.bool false) w := fun _ => rfl
    clear hbl hwl
    go_enter Tryd.func39, Tryd.ntmps39
    go_wp2_with (at_builtin; go_must (rw [← HWL.out]); go_must (refine app_ow3 rfl _ _ 24 24 rfl w.heap.size 5 i0 (.int .u8 0) 1 1 Tryd.underlying24 hi0 hz0 hz1 hz2 (by rfl) _ 0 _ rfl HO0.out l.length _ rfl (Rd.src Tryd.underlying24 HLL.out (bys_one _)) (by unfold maxLen; omega) (by omega) hsz ?_); go_must (intro v4 w4 how4 hg4 hn4); go_must (obtain ⟨q4, c4, rfl⟩ := Ow_form how4); go_must (refine Hid.out ?_))
    refine Lib.hid ?_
    rw [Nat.zero_add] at how4 hn4
    rw [List.nil_append] at how4
    have HO := Lib.hid how4
    have HB : Hid (Below w.heap.size w w4) := Lib.hid (HBL.out.grown hg4 HBL.out.size (fun k hk => by cases hk; exact Nat.le_refl _))
    clear how4 hg4 hn4
    go_wp2_with fail
    go_ret
    exact ⟨q4, c4, rfl, HO.out, HB.out⟩
set_option maxRecDepth 100000 in
set_option maxHeartbeats 4000000 in
theorem newDir_bad (q : Option Addr) (c : Nat) (l : List UInt8) (K : List UInt8) (w : World) (_hK : K.length = 64) (h : l.length < 1 ∨ 16 < l.length) :
    Calls Tryd.prog 27 #[.slice q l.length c, .agg (bysA K), .agg #[.int .i64 1, .int .i64 1, .int .i64 1]] w fun e w' => e = .returned (.tuple #[.pointer none, .int .i64 1]) ∧ Below w.heap.size w w' := by
  have HV : Hid (inB l.length 16 = false) := Lib.hid (decide_eq_false (fun e => by omega))
  have hbl : Below w.heap.size w ((w.alloc (.cells (bysA K) 44)).alloc (.cells #[.int .i64 1, .int .i64 1, .int .i64 1] 46)) := ((Below.refl w.heap.size w).alloc (Nat.le_refl _) _).alloc (by have : (w.alloc (.cells (bysA K) 44)).heap.size = w.heap.size + 1 := Array.size_push _; omega) _
  obtain ⟨wl, hwl⟩ : ∃ wl, wl = (w.alloc (.cells (bysA K) 44)).alloc (.cells #[.int .i64 1, .int .i64 1, .int .i64 1] 46) := ⟨_, rfl⟩
  rw [← hwl] at hbl
  have HWL := Lib.hid hwl
  have HBL := Lib.hid hbl
  clear hwl hbl
  go_enter Tryd.func27, Tryd.ntmps27
  go_wp2_with fail
  rw [← HWL.out]
  refine (within_any l.length 16 wl).mono ?_
  rintro e w2 ⟨rfl, hw⟩
  obtain rfl : wl = w2 := hw.symm
  rw [HV.out]
  clear hw
  go_wp2_with fail
  go_ret2
  exact ⟨rfl, HBL.out⟩
set_option maxRecDepth 100000 in
set_option maxHeartbeats 4000000 in
theorem newDir_any (q : Option Addr) (c : Nat) (l : List UInt8) (K : List UInt8) (w : World) (hS : Sha.Tabs w) (hK : K.length = 64) (h1 : 1 ≤ l.length) (h2 : l.length ≤ 16) (hl : Rd w 1 (.slice q l.length c) l.length (bys l)) :
    Calls Tryd.prog 27 #[.slice q l.length c, .agg (bysA K), .agg #[.int .i64 1, .int .i64 1, .int .i64 1]] w fun e w' => ∃ g, e = .returned (.tuple #[.pointer (some ⟨g, 0, none⟩), .int .i64 0]) ∧ w.heap.size ≤ g ∧ g < w'.heap.size ∧ Below w.heap.size w w' := by
  have HV : Hid (inB l.length 16 = true) := Lib.hid (decide_eq_true ⟨by omega, by omega⟩)
  have HV1 : Hid (inB 1 64 = true) := Lib.hid rfl
  have HV2 : Hid (inB 1 16 = true) := Lib.hid rfl
  have HV3 : Hid (inB 1 32 = true) := Lib.hid rfl
  have HL := Lib.hid hl
  have HS := Lib.hid hS
  obtain ⟨k, hk⟩ : ∃ k, k = w.heap.size := ⟨_, rfl⟩
  have hs1 : (w.alloc (.cells (bysA K) 44)).heap.size = k + 1 := by rw [hk]; exact Array.size_push _
  have hb1 : Below w.heap.size w (w.alloc (.cells (bysA K) 44)) := (Below.refl w.heap.size w).alloc (Nat.le_refl _) _
  obtain ⟨wl, hwl⟩ : ∃ wl, wl = (w.alloc (.cells (bysA K) 44)).alloc (.cells #[.int .i64 1, .int .i64 1, .int .i64 1] 46) := ⟨_, rfl⟩
  have hb2 : Below (k + 1) (w.alloc (.cells (bysA K) 44)) wl := by rw [hwl]; exact (Below.refl _ _).alloc (by omega) _
  have hrk : wl.heap[k]? = some (.cells (bysA K) 44 (0, 0)) := (hb2.block k (by omega)).trans (by rw [hk]; exact heap_alloc_new w _)
  have hrl : wl.heap[k + 1]? = some (.cells #[.int .i64 1, .int .i64 1, .int .i64 1] 46 (0, 0)) := by rw [hwl, ← hs1]; exact heap_alloc_new _ _
  have hbl : Below w.heap.size w wl := hb1.trans (hb2.mono (by omega))
  have hkl := (Array.getElem?_eq_some_iff.1 hrk).1
  have hll := (Array.getElem?_eq_some_iff.1 hrl).1
  have e0 : wl.cell? ⟨k + 1, 0, none⟩ = some (.int .i64 1) := (cell_of_row _ _ _ _ _ _ hrl).trans rfl
  have e1 : wl.cell? ⟨k + 1, 1, none⟩ = some (.int .i64 1) := (cell_of_row _ _ _ _ _ _ hrl).trans rfl
  have e2 : wl.cell? ⟨k + 1, 2, none⟩ = some (.int .i64 1) := (cell_of_row _ _ _ _ _ _ hrl).trans rfl
  have HWL := Lib.hid hwl
  have HBL := Lib.hid hbl
  have HRK := Lib.hid hrk
  have HRL := Lib.hid hrl
  have HKE := Lib.hid hk
  have HS1 := Lib.hid hs1
  clear hwl hbl hb1 hb2 hrk hrl hl hS hs1 hk
  go_enter Tryd.func27, Tryd.ntmps27
  go_wp2_with fail
  rw [← HWL.out, ← HKE.out]
  refine (within_any l.length 16 wl).mono ?_
  rintro e w2 ⟨rfl, hw⟩
  obtain rfl : wl = w2 := hw.symm
  rw [HV.out]
  clear hw
  go_wp2_with fail
  refine (within_any 1 64 wl).mono ?_
  rintro e w2 ⟨rfl, hw⟩
  obtain rfl : wl = w2 := hw.symm
  rw [HV1.out]
  clear hw
  go_wp2_with fail
  refine (within_any 1 16 wl).mono ?_
  rintro e w2 ⟨rfl, hw⟩
  obtain rfl : wl = w2 := hw.symm
  rw [HV2.out]
  clear hw
  go_wp2_with fail
  refine (within_any 1 32 wl).mono ?_
  rintro e w2 ⟨rfl, hw⟩
  obtain rfl : wl = w2 := hw.symm
  rw [HV3.out]
  clear hw
  go_wp2_with fail
  have HLD : Hid (∀ x, Below wl.heap.size wl x → (Instr.loadAt 44 (.pointer (some ⟨k, 0, none⟩))).run Tryd.prog x = .ok (.agg (bysA K)) x) := Lib.hid (fun x hx => by
    have hrow := (hx.block k hkl).trans HRK.out
    have := run_loadAt_mid (P := Tryd.prog) x k 0 44 (bysA K).toList _ (fun j u hu => by rw [cell_of_row x k _ _ _ _ hrow, Nat.zero_add]; simpa using hu) Tryd.underlying44 rfl (by rw [Array.length_toList, bysA_size, hK]; kernel_rfl)
    simpa using this)
  have HBD := Lib.hid (fun q n c m => dir_built q n c m K hK)
  have HDS := Lib.hid (fun q n c m => dirA_size q n c m K hK)
  refine Rc.region (wl.heap.size) 8 [Rc.F 1 (fun p => .slice p.q l.length p.c) (fun _ _ _ => True), Rc.F 4 (fun p => .map (some p.c)) (fun _ _ _ => True), ⟨6, [1, 4], [], some (fun _ pj => .pointer (some ⟨pj.c, 0, none⟩)), fun p pj _ y => y.heap[pj.c]? = some (.cells (dirA (p 1).q l.length (p 1).c K (p 4).c) 121 (0, 0)) ∧ wl.heap.size ≤ pj.c⟩] [6] (by kernel_rfl) (Nat.le_refl _) (by kernel_rfl) ?_; intro p; simp only [List.take, List.drop]
  iterate 1 (refine Rc.rK rfl rfl ?_; intro K hK; apply Exists.intro; refine ⟨?_, ?_⟩; (focus (intro x hx;  go_simp; (first | (fail) | ((try go_bits); (try go_simp); (try rfl))))); go_simp; refine hK _ ?_; clear hK K)
  refine Rc.fK rfl rfl rfl rfl ?_ ?_
  · intro x Fs hx hle hg K' hK'
    have hcl := clone_any q c l x (HL.out.below (HBL.out.trans ((Rc.undrew hx).mono HBL.out.size))) (by omega)
    go_wp2_with fail
    refine hcl.mono ?_
    rintro e x' ⟨q', c', rfl, _, hb⟩
    go_wp2_with fail
    exact hK' ⟨q', c', undef⟩ x' hb (fun _ _ _ _ => trivial)
  intro K hK; go_simp; refine hK _ ?_; clear hK K
  refine Rc.r_load rfl rfl _ _ rfl (.agg (bysA K)) (fun x hx => HLD.out x (Rc.undrew hx)) ?_; intro K hK; go_simp; refine hK _ ?_; clear hK K
  iterate 1 (refine Rc.rK rfl rfl ?_; intro K hK; apply Exists.intro; refine ⟨?_, ?_⟩; (focus (intro x hx; have f0 := Rc.cell_le hx hll e0; have f1 := Rc.cell_le hx hll e1; have f2 := Rc.cell_le hx hll e2; go_simp; (first | (fail) | ((try go_bits); (try go_simp); (try rfl))))); go_simp; refine hK _ ?_; clear hK K)
  refine Rc.fK rfl rfl rfl rfl ?_ ?_
  · intro x Fs hx hle hg K' hK'
    refine l_makeMap rfl 116 rfl ?_
    go_wp2_with fail
    exact hK' ⟨none, x.heap.size, undef⟩ _ ((Below.refl _ _).alloc (Nat.le_refl _) _) (fun _ _ _ _ => trivial)
  intro K hK; go_simp; refine hK _ ?_; clear hK K
  refine Rc.r_buildT rfl rfl 121 _ rfl (dirA (p 1).q l.length (p 1).c K (p 4).c) (by go_simp; exact HBD.out _ _ _ _) ?_
  intro K hK; go_simp; refine hK _ ?_; clear hK K
  refine Rc.fK rfl rfl rfl rfl ?_ ?_
  · intro x Fs hx hle hg K' hK'
    have hrow := heap_alloc_new x (.cells (dirA (p 1).q l.length (p 1).c K (p 4).c) 121)
    have hxs := (Rc.undrew hx).size
    go_wp2_with fail
    exact hK' ⟨none, x.heap.size, undef⟩ _ ((Below.refl _ _).alloc (Nat.le_refl _) _) (fun F y hF hy => ⟨(hy.block _ (Array.getElem?_eq_some_iff.1 hrow).1 (.inr (hF _ (Nat.le_refl _) (Array.getElem?_eq_some_iff.1 hrow).1))).trans hrow, hxs⟩)
  intro K hK; go_simp; refine hK _ ?_; clear hK K
  iterate 1 (refine Rc.rK rfl rfl ?_; intro K hK; apply Exists.intro; refine ⟨?_, ?_⟩; (focus (intro x hx;  go_simp; (first | (fail) | ((try go_bits); (try go_simp); (try rfl))))); go_simp; refine hK _ ?_; clear hK K)
  refine Rc.done fun wd Fs hx hle hg => ?_
  obtain ⟨D, hD⟩ : ∃ D, D = (p 6).c := ⟨_, rfl⟩
  have hf6 : wd.heap[(p 6).c]? = some (.cells (dirA (p 1).q l.length (p 1).c K (p 4).c) 121 (0, 0)) ∧ wl.heap.size ≤ (p 6).c := hg.1
  rw [← hD] at hf6 ⊢
  have hbd := Rc.undrew hx
  have HD0 : Hid (DirRow0 wd D) := Lib.hid ⟨_, hf6.1, HDS.out _ _ _ _, by simp [dirA, bysA, bys, hK], by simp [dirA, bysA, bys, hK], by simp [dirA, bysA, bys, hK]⟩
  have HBD2 := Lib.hid (HBL.out.trans (hbd.mono HBL.out.size))
  have hDl : wl.heap.size ≤ D := hf6.2
  have hDs := (Array.getElem?_eq_some_iff.1 hf6.1).1
  have hwlw := HBL.out.size
  have HDW : Hid (w.heap.size ≤ D) := Lib.hid (by omega)
  clear hx hle hg hf6 hD hbd e0 e1 e2 hkl hll HLD HBD HRK HRL HKE HS1 HWL hDl hwlw
  go_wp2_with fail
  refine NoPanic.normal ?_
  go_wp2_with fail
  obtain ⟨cs0, hr0, hz0, h70, h71, h72⟩ := HD0.out
  have c70 : wd.cell? ⟨D, 70, none⟩ = some (.slice none 0 0) := (cell_of_row _ _ _ _ _ _ hr0).trans h70
  have c71 : wd.cell? ⟨D, 71, none⟩ = some (.slice none 0 0) := (cell_of_row _ _ _ _ _ _ hr0).trans h71
  have HR0 := Lib.hid hr0
  have HZ0 := Lib.hid hz0
  have H72 := Lib.hid h72
  have HC70 := Lib.hid c70
  have HC71 := Lib.hid c71
  clear hr0 hz0 h70 h71 h72 c70 c71
  obtain ⟨ia, ha0, ha1, ha2, ha3⟩ := parts3M infoTree
  obtain ⟨ib, hb0, hb1, hb2, hb3⟩ := parts3M infoPuts
  refine Re.region (fun j => j < wd.heap.size ∧ ¬ (j = D)) 20 [⟨6, [], [], some (fun _ pj => .slice pj.q 1 1), fun _ pj _ y => Rd y 1 (.slice pj.q 1 1) 1 [.pointer none], Re.free, []⟩, ⟨7, [6], [], some (fun _ pj => .slice pj.q 1 pj.c), fun _ _ _ _ => True, Re.free, []⟩, ⟨12, [], [], some (fun _ pj => .slice pj.q 1 1), fun _ pj _ y => Rd y 1 (.slice pj.q 1 1) 1 [.slice none 0 0], Re.free, []⟩, ⟨13, [12], [], some (fun _ pj => .slice pj.q 1 pj.c), fun _ _ _ _ => True, Re.free, []⟩, ⟨16, [], [], some (fun _ _ => undef), fun _ _ F y => DirRow y D ∧ F D, (· = D), [5, 11]⟩, ⟨19, [16], [16], some (fun _ _ => undef), fun _ _ _ y => DirRow y D, Re.free, []⟩] [19] (by kernel_rfl) (Re.own_set (i := 16) (fun j hj => by cases hj; exact hDs) (by intro s hs; simp only [List.mem_cons, List.not_mem_nil, or_false] at hs; rcases hs with rfl | rfl | rfl | rfl | rfl | rfl <;> first | exact .inl rfl | exact .inr ⟨rfl, rfl⟩)) (by kernel_rfl) ?_; intro p; simp only [List.take, List.drop]
  iterate 5 (refine Re.rK rfl rfl ?_; intro K hK; apply Exists.intro; refine ⟨?_, ?_⟩; (focus (intro x hx;  go_simp; (first | (fail) | ((try go_bits); (try go_simp); (try rfl))))); go_simp; refine hK _ ?_; clear hK K)
  iterate 1 (refine Re.rK rfl rfl ?_; intro K hK; apply Exists.intro; refine ⟨?_, ?_⟩; (focus (intro x hx; have hrx := ((Re.undrew hx).block D (.inr ⟨16, _, rfl, by simp, rfl⟩)).trans HR0.out; have c71 : x.cell? ⟨D, 71, none⟩ = some (.slice none 0 0) := ((cell_of_row _ _ _ _ _ _ hrx).trans ((cell_of_row _ _ _ _ _ _ HR0.out).symm.trans HC71.out)); go_simp; (first | (fail) | ((try go_bits); (try go_simp); (try rfl))))); go_simp; refine hK _ ?_; clear hK K)
  refine Re.cK rfl rfl rfl ?_ ?_
  · intro x Fs hx ho hg K' hK'
    have hlit := Rd_lit x #[.pointer none] 178 1 1 rfl (by decide)
    have hlt : x.heap.size < (x.alloc (.cells #[.pointer none] 178)).heap.size := (Array.getElem?_eq_some_iff.1 (heap_alloc_new x (.cells #[.pointer none] 178))).1
    go_wp2_with fail
    exact hK' ⟨some ⟨x.heap.size, 0, none⟩, 0, undef⟩ _ ⟨rfl, rfl, rfl, Nat.le_of_lt hlt, fun k hk _ => Rg.heap_alloc_past x _ k hk⟩ (fun y hy => hlit.at hy.size (fun k hk => by cases hk; exact hy.block _ hlt (.inr (.inr ⟨Nat.le_refl _, hlt⟩))))
  intro K hK; go_simp; refine hK _ ?_; clear hK K
  refine Re.cK rfl rfl rfl ?_ ?_
  · intro x Fs hx ho hg K' hK'
    have hrl : Rd x 1 (.slice (p 6).q 1 1) 1 [.pointer none] := hg.1
    refine app_ow3 rfl _ _ 119 119 rfl x.heap.size 178 ia (.pointer none) 1 8 Tryd.underlying119 ha0 ha1 ha2 ha3 (by rfl) _ 0 [] rfl (Ow.nil _ _ _ _) 1 _ rfl (Rd.src Tryd.underlying119 hrl (by intro u hu; simp at hu; subst hu; rfl)) (by unfold maxLen; omega) (by omega) (Nat.le_refl _) ?_
    intro v' x' how hg' hor
    obtain ⟨q', c', rfl⟩ := Ow_form how
    go_wp2_with fail
    exact hK' ⟨q', c', undef⟩ x' ⟨hg'.os, hg'.tape, hg'.output, hg'.size, fun k hk hn => hg'.block k hk (fun e => by cases e)⟩ (fun _ _ => trivial)
  intro K hK; go_simp; refine hK _ ?_; clear hK K
  iterate 3 (refine Re.rK rfl rfl ?_; intro K hK; apply Exists.intro; refine ⟨?_, ?_⟩; (focus (intro x hx;  go_simp; (first | (fail) | ((try go_bits); (try go_simp); (try rfl))))); go_simp; refine hK _ ?_; clear hK K)
  iterate 1 (refine Re.rK rfl rfl ?_; intro K hK; apply Exists.intro; refine ⟨?_, ?_⟩; (focus (intro x hx; have hrx := ((Re.undrew hx).block D (.inr ⟨16, _, rfl, by simp, rfl⟩)).trans HR0.out; have c70 : x.cell? ⟨D, 70, none⟩ = some (.slice none 0 0) := ((cell_of_row _ _ _ _ _ _ hrx).trans ((cell_of_row _ _ _ _ _ _ HR0.out).symm.trans HC70.out)); go_simp; (first | (fail) | ((try go_bits); (try go_simp); (try rfl))))); go_simp; refine hK _ ?_; clear hK K)
  refine Re.cK rfl rfl rfl ?_ ?_
  · intro x Fs hx ho hg K' hK'
    have hlit := Rd_lit x #[.slice none 0 0] 117 1 1 rfl (by decide)
    have hlt : x.heap.size < (x.alloc (.cells #[.slice none 0 0] 117)).heap.size := (Array.getElem?_eq_some_iff.1 (heap_alloc_new x (.cells #[.slice none 0 0] 117))).1
    go_wp2_with fail
    exact hK' ⟨some ⟨x.heap.size, 0, none⟩, 0, undef⟩ _ ⟨rfl, rfl, rfl, Nat.le_of_lt hlt, fun k hk _ => Rg.heap_alloc_past x _ k hk⟩ (fun y hy => hlit.at hy.size (fun k hk => by cases hk; exact hy.block _ hlt (.inr (.inr ⟨Nat.le_refl _, hlt⟩))))
  intro K hK; go_simp; refine hK _ ?_; clear hK K
  refine Re.cK rfl rfl rfl ?_ ?_
  · intro x Fs hx ho hg K' hK'
    have hrl : Rd x 1 (.slice (p 12).q 1 1) 1 [.slice none 0 0] := hg.1
    refine app_ow3 rfl _ _ 118 118 rfl x.heap.size 117 ib (.slice none 0 0) 1 24 Tryd.underlying118 hb0 hb1 hb2 hb3 (by rfl) _ 0 [] rfl (Ow.nil _ _ _ _) 1 _ rfl (Rd.src Tryd.underlying118 hrl (by intro u hu; simp at hu; subst hu; rfl)) (by unfold maxLen; omega) (by omega) (Nat.le_refl _) ?_
    intro v' x' how hg' hor
    obtain ⟨q', c', rfl⟩ := Ow_form how
    go_wp2_with fail
    exact hK' ⟨q', c', undef⟩ x' ⟨hg'.os, hg'.tape, hg'.output, hg'.size, fun k hk hn => hg'.block k hk (fun e => by cases e)⟩ (fun _ _ => trivial)
  intro K hK; go_simp; refine hK _ ?_; clear hK K
  iterate 2 (refine Re.rK rfl rfl ?_; intro K hK; apply Exists.intro; refine ⟨?_, ?_⟩; (focus (intro x hx;  go_simp; (first | (fail) | ((try go_bits); (try go_simp); (try rfl))))); go_simp; refine hK _ ?_; clear hK K)
  refine Re.cK rfl rfl rfl ?_ ?_
  · intro x Fs hx ho hg K' hK'
    have hrx := (ho D rfl).trans HR0.out
    have d71 : x.cell? ⟨D, 71, none⟩ = some (.slice none 0 0) := ((cell_of_row _ _ _ _ _ _ hrx).trans ((cell_of_row _ _ _ _ _ _ HR0.out).symm.trans HC71.out))
    have f71 : x.frozen? ⟨D, 71, none⟩ = false := by simp [World.frozen?, hrx]
    have hDx := (Array.getElem?_eq_some_iff.1 hrx).1
    obtain ⟨x2, hx2⟩ : ∃ x2, x2 = x.setCell ⟨D, 71, none⟩ (.slice (p 7).q 1 (p 7).c) := ⟨_, rfl⟩
    have hr2 : x2.heap[D]? = some (.cells (cs0.setIfInBounds 71 (.slice (p 7).q 1 (p 7).c)) 121 (0, 0)) := by
      rw [hx2, setCell_eq_setRow x D 71 _ _ _ _ hrx]
      exact setRow_heap x D _ _ _ _ hrx
    have hg2 : x.grownBy x2 (some D) := by rw [hx2]; exact grown_setCell _ _ _ _
    have HX2 := Lib.hid hx2
    have HR2 := Lib.hid hr2
    have HG2 := Lib.hid hg2
    clear hrx hx2 hr2 hg2
    go_wp2_with (rw [← HX2.out])
    exact hK' Rc.dflt x2 ⟨HG2.out.os, HG2.out.tape, HG2.out.output, HG2.out.size, fun k hk hn => HG2.out.block k hk (fun e => hn (.inr (by cases e; rfl)))⟩ (fun y hy => ⟨⟨_, (hy.block D (Array.getElem?_eq_some_iff.1 HR2.out).1 (.inr (.inl (.inr rfl)))).trans HR2.out, by rw [Array.size_setIfInBounds]; exact HZ0.out, by rw [Array.getElem?_setIfInBounds_ne (by decide)]; exact H72.out⟩, .inl (.inr rfl)⟩)
  intro K hK; go_simp; refine hK _ ?_; clear hK K
  iterate 2 (refine Re.rK rfl rfl ?_; intro K hK; apply Exists.intro; refine ⟨?_, ?_⟩; (focus (intro x hx;  go_simp; (first | (fail) | ((try go_bits); (try go_simp); (try rfl))))); go_simp; refine hK _ ?_; clear hK K)
  refine Re.cK rfl rfl rfl ?_ ?_
  · intro x Fs hx ho hg K' hK'
    obtain ⟨⟨cs1, hr1, hz1, h172⟩, hF⟩ : DirRow x D ∧ Fs 16 D := hg.1
    obtain ⟨u, hu⟩ : ∃ u, cs1[70]? = some u := ⟨_, Array.getElem?_eq_getElem (by omega)⟩
    have d70 : x.cell? ⟨D, 70, none⟩ = some u := (cell_of_row _ _ _ _ _ _ hr1).trans hu
    have f70 : x.frozen? ⟨D, 70, none⟩ = false := by simp [World.frozen?, hr1]
    have hDx := (Array.getElem?_eq_some_iff.1 hr1).1
    obtain ⟨x2, hx2⟩ : ∃ x2, x2 = x.setCell ⟨D, 70, none⟩ (.slice (p 13).q 1 (p 13).c) := ⟨_, rfl⟩
    have hr2 : x2.heap[D]? = some (.cells (cs1.setIfInBounds 70 (.slice (p 13).q 1 (p 13).c)) 121 (0, 0)) := by
      rw [hx2, setCell_eq_setRow x D 70 _ _ _ _ hr1]
      exact setRow_heap x D _ _ _ _ hr1
    have hg2 : x.grownBy x2 (some D) := by rw [hx2]; exact grown_setCell _ _ _ _
    have HX2 := Lib.hid hx2
    have HR2 := Lib.hid hr2
    have HG2 := Lib.hid hg2
    have HZ1 := Lib.hid hz1
    have H172 := Lib.hid h172
    have HFD := Lib.hid hF
    clear hr1 hx2 hr2 hg2 hz1 h172 hF hu
    go_wp2_with (rw [← HX2.out])
    exact hK' Rc.dflt x2 ⟨HG2.out.os, HG2.out.tape, HG2.out.output, HG2.out.size, fun k hk hn => HG2.out.block k hk (fun e => hn (.inl ⟨16, by simp, by cases e; exact HFD.out⟩))⟩ (fun y hy => ⟨_, (hy.block D (Array.getElem?_eq_some_iff.1 HR2.out).1 (.inr (.inl (.inl ⟨16, by simp, HFD.out⟩)))).trans HR2.out, by rw [Array.size_setIfInBounds]; exact HZ1.out, by rw [Array.getElem?_setIfInBounds_ne (by decide)]; exact H172.out⟩)
  intro K hK; go_simp; refine hK _ ?_; clear hK K
  refine Re.done fun wf Fs2 hx hg => ?_
  have hrow : DirRow wf D := hg.1
  have hsm := Re.undrew hx
  have hbf : Below w.heap.size w wf := HBD2.out.trans ⟨hsm.os, hsm.tape, hsm.output, hsm.size, fun j hj => hsm.block j ⟨by have := HBD2.out.size; omega, fun e => by have := HDW.out; omega⟩⟩
  obtain ⟨cs, hrf, hzf, hcf⟩ := hrow
  have HBF := Lib.hid hbf
  have HRF := Lib.hid hrf
  have HZF := Lib.hid hzf
  have HCF := Lib.hid hcf
  have hDf := (Array.getElem?_eq_some_iff.1 hrf).1
  have c72 : wf.cell? ⟨D, 72, none⟩ = some (.slice none 0 0) := (cell_of_row _ _ _ _ _ _ hrf).trans hcf
  clear hx hg hsm hbf hrf hzf hcf HD0 HR0 HZ0 H72 HC70 HC71 hDs
  go_wp2_with fail
  refine NoPanic.normal ?_
  go_wp2_with fail
  obtain ⟨ic, hc0, hc1, hc2, hc3⟩ := parts3M infoLink
  have HLW := Lib.hid (HL.out.below HBF.out)
  have HSW := Lib.hid (HS.out.below HBF.out)
  obtain ⟨R, hR⟩ : ∃ R, R = sha (4 :: l) := ⟨_, rfl⟩
  have HRL : Hid (R.length = 32) := Lib.hid (by rw [hR]; exact sha_length _)
  have HRE := Lib.hid hR
  have HFL : Hid (Array.foldl (fun (cs : Array Value) (x : Value × Nat) => cs.setIfInBounds x.2 x.1) (bysA zeros32) (bysA R).zipIdx 0 (bysA R).size = bysA R) := Lib.hid (Ref.fill_all (bysA R) (bysA zeros32) (by rw [bysA_size, HRL.out]; rfl))
  have hsR : (bysA R).size = 32 := by rw [bysA_size, HRL.out]
  rw [hsR] at HFL
  clear hR
  refine Rc.region (wf.heap.size) 11 [Rc.F 6 (fun _ => .agg (bysA R)) (fun _ _ _ => True), Rc.F 7 (fun p => .slice p.q 1 1) (fun p _ y => Rd y 32 (.slice p.q 1 1) 1 (bys R)), ⟨8, [7], [], some (fun _ pj => .slice pj.q 1 pj.c), fun _ _ _ _ => True⟩] [] (by kernel_rfl) (Nat.le_refl _) (by kernel_rfl) ?_; intro p; simp only [List.take, List.drop]
  iterate 6 (refine Rc.rK rfl rfl ?_; intro K hK; apply Exists.intro; refine ⟨?_, ?_⟩; (focus (intro x hx; have e72 := Rc.cell_le hx hDf c72; go_simp; (first | (fail) | ((try go_bits); (try go_simp); (try rfl))))); go_simp; refine hK _ ?_; clear hK K)
  refine Rc.fK rfl rfl rfl rfl ?_ ?_
  · intro x Fs hx hle hg K' hK'
    have hfi := firstT_any q c l x (HSW.out.below (Rc.undrew hx)) (HLW.out.below (Rc.undrew hx)) (by omega)
    go_wp2_with fail
    refine hfi.mono ?_
    rintro e x' ⟨rfl, hb⟩
    rw [← HRE.out]
    go_wp2_with fail
    exact hK' Rc.dflt x' hb (fun _ _ _ _ => trivial)
  intro K hK; go_simp; refine hK _ ?_; clear hK K
  refine Rc.fK rfl rfl rfl rfl ?_ ?_
  · intro x Fs hx hle hg K' hK'
    have hlit := Rd_lit x (bysA R) 42 32 1 (by rw [bysA_size, HRL.out]) (by decide)
    go_wp2_with fail
    rw [z32T, HFL.out]
    exact hK' ⟨some ⟨x.heap.size, 0, none⟩, 0, undef⟩ _ ((Below.refl _ _).alloc (Nat.le_refl _) _) fun F y hF hy => hlit.keeps hy (fun k hk => .inr (by cases hk; exact hF _ (Nat.le_refl _) (by simp)))
  intro K hK; go_simp; refine hK _ ?_; clear hK K
  refine Rc.cK rfl rfl rfl ?_ ?_
  · intro x Fs hx hle hg K' hK'
    have hrl : Rd x 32 (.slice (p 7).q 1 1) 1 (bys R) := hg.1
    refine app_ow3 rfl _ _ 87 87 rfl x.heap.size 42 ic (.agg (bysA zeros32)) 32 32 Tryd.underlying87 hc0 hc1 hc2 hc3 (by rfl) _ 0 [] rfl (Ow.nil _ _ _ _) 1 _ rfl (Rd.src Tryd.underlying87 hrl (bys_one _)) (by unfold maxLen; omega) (by omega) (Nat.le_refl _) ?_
    intro v' x' how hg' hor
    obtain ⟨q', c', rfl⟩ := Ow_form how
    go_wp2_with fail
    exact hK' ⟨q', c', undef⟩ x' ⟨hg'.os, hg'.tape, hg'.output, hg'.size, fun k hk hn => hg'.block k hk (fun e => by cases e)⟩ (fun _ _ => trivial)
  intro K hK; go_simp; refine hK _ ?_; clear hK K
  iterate 2 (refine Rc.rK rfl rfl ?_; intro K hK; apply Exists.intro; refine ⟨?_, ?_⟩; (focus (intro x hx;  go_simp; (first | (fail) | ((try go_bits); (try go_simp); (try rfl))))); go_simp; refine hK _ ?_; clear hK K)
  refine Rc.done fun x Fs hx hle hg => ?_
  have hbx := Rc.undrew hx
  have hrx := (hbx.block D hDf).trans HRF.out
  have d72 : x.cell? ⟨D, 72, none⟩ = some (.slice none 0 0) := (Below.cell hbx (p := ⟨D, 72, none⟩) hDf).trans c72
  have f72 : x.frozen? ⟨D, 72, none⟩ = false := by simp [World.frozen?, hrx]
  have hDx := (Array.getElem?_eq_some_iff.1 hrx).1
  obtain ⟨x2, hx2⟩ : ∃ x2, x2 = x.setCell ⟨D, 72, none⟩ (.slice (p 8).q 1 (p 8).c) := ⟨_, rfl⟩
  have hg2 : x.grownBy x2 (some D) := by rw [hx2]; exact grown_setCell _ _ _ _
  have HB2 : Hid (Below w.heap.size w x2) := Lib.hid ((HBF.out.trans (hbx.mono HBF.out.size)).grown hg2 (Nat.le_trans HBF.out.size hbx.size) (fun k hk => by cases hk; exact HDW.out))
  have HD2 : Hid (D < x2.heap.size) := Lib.hid (Nat.lt_of_lt_of_le hDx hg2.size)
  have HX2 := Lib.hid hx2
  clear hx hle hg hbx hrx hx2 hg2 c72
  go_wp2_with (rw [← HX2.out])
  refine NoPanic.normal ?_
  go_wp2_with fail
  go_ret2
  exact ⟨D, rfl, HDW.out, HD2.out, HB2.out⟩
end Ten
end Go.Proofs.YtmkoiddfkanmiaaDoor

/- A part of the proof. Plain; no condition. -/
import Derived.Test.YtjkbpdobeljmjaaGreatDoorP4
import Derived.Test.YtjkbpdobeljmjaaGreatDoorP7
import Derived.Test.YtjkbpdobeljmjaaGreatDoorP13
import Derived.Test.YtjkbpdobeljmjaaGreatDoorP14
import Derived.Test.YtjkbpdobeljmjaaGreatDoorP16
import Derived.Test.YtjkbpdobeljmjaaGreatDoorP15
import Derived.Test.YtjkbpdobeljmjaaGreatDoorP10
import Derived.Test.YtjkbpdobeljmjaaGreatDoorP8
import Derived.Test.YtjkbpdobeljmjaaGreatDoorP0
import Derived.Test.YtjkbpdobeljmjaaGreatDoorP3
import Derived.WideKeyArr
import Derived.WideKeyElems
import Derived.Carry
import Derived.MapKept
import Derived.Test.YtjkbpdobeljmjaaGreatDoorChecked
import Derived.WalkSpells
import Derived.WalkLawsBesides
import Derived.Lib.Hide
import Derived.Deep.CutBlock
/- The walk of a directory's New: what it yields lies in new blocks. -/
namespace Go.Proofs.YtjkbpdobeljmjaaGreatDoor
open Go.RowKit Bits Mem Sha
theorem Mem.l_makeMap {P : Program} {ops : Array Oper} {Q : Exit → Act → World → Prop} {a : Act} {w : World} {o : Oper} {rest : List Oper} (hg : o.guard = none) (t : TypeId) (ho : o.op = .makeMap t none)
    (h : wpList P ops Q rest (a.put o.dst (.map (some w.heap.size))) (w.alloc (.map #[] 0))) : wpList P ops Q (o :: rest) a w :=
  wpList_plain hg fun K hK => by
    have hr : (Instr.makeMap t none).run P w = .ok (.map (some w.heap.size)) (w.alloc (.map #[] 0)) := rfl
    unfold Oper.wp execOp
    simp only [ho, Option.map_none, Sem.run_bind, hr, Result.andThen_ok, Sem.run_pure]
    exact hK _ _ h
end Go.Proofs.YtjkbpdobeljmjaaGreatDoor

/- The walk of extract.Find. -/
namespace Go.Proofs.YtjkbpdobeljmjaaGreatDoor
open Go.RowKit Bits Mem Sha
namespace Fnd
theorem partsF (w : World) (a : List UInt8) (x : Value) (hx : ∃ q c, x = .slice q a.length c ∧ Rd w 1 (.slice q a.length c) a.length (bys a)) :
    Parts (w.alloc (.cells #[x] 31)) (.slice (some ⟨w.heap.size, 0, none⟩) 1 1) [a] := by
  have hb : Below w.heap.size w (w.alloc (.cells #[x] 31)) := (Below.refl _ _).alloc (Nat.le_refl _) _
  refine ⟨[x], Rd_lit w #[x] 31 1 1 rfl (by decide), fun i hi => ?_⟩
  have : i = 0 := by simp at hi; omega
  subst this
  obtain ⟨q, c, e, hr⟩ := hx
  exact ⟨q, c, by rw [e]; rfl, hr.below hb⟩
end Fnd
end Go.Proofs.YtjkbpdobeljmjaaGreatDoor

/- How a member that is gone stands: its texts. -/
namespace Go.Proofs.YtjkbpdobeljmjaaGreatDoor
open Go.RowKit Bits Mem Sha
namespace Fnd
theorem load_part {w : World} {g off : Nat} {t : TypeId} {C D : Array Value} {fz : Nat × Nat} {T : TypeId} {d : TypeDesc} (h : w.heap[g]? = some (.cells C t fz)) (hp : ∀ j v, D[j]? = some v → C[off + j]? = some v) (hu : Tryz.prog.underlying T = some d) (ha : d.isRow = true) (hi : (Tryz.prog.info? T).map (·.size) = some D.size) : (Instr.loadAt T (.pointer (some ⟨g, off, none⟩))).run Tryz.prog w = .ok (.agg D) w := by
  have := run_loadAt_mid (P := Tryz.prog) w g off T D.toList d (fun j v hv => by
    rw [cell_of_row w g _ _ _ _ h]; exact hp j v (by simpa using hv)) hu ha (by rw [hi, Array.length_toList])
  simpa using this
end Fnd
end Go.Proofs.YtjkbpdobeljmjaaGreatDoor

/- The reference's arithmetic on int: its words are those of BitVec 32. Its turn. -/
namespace Go.Proofs.YtjkbpdobeljmjaaGreatDoor
open Go.RowKit Bits
namespace Ref
theorem wrap64_nat (a : Nat) (h : a < 9223372036854775808) : IntKind.i64.wrap (a : Int) = (a : Int) := IntWalk.i64_in _ (by omega)
theorem ofInt64 (a : Nat) (h : a < 18446744073709551616) : (BitVec.ofInt 64 (a : Int)).toNat = a := by
  rw [BitVec.ofInt_natCast, BitVec.toNat_ofNat]; exact Nat.mod_eq_of_lt (by omega)
theorem i64_and (a b : Nat) (ha : a < 9223372036854775808) (hb : b < 9223372036854775808) : bits .and .i64 (a : Int) (b : Int) = ((a &&& b : Nat) : Int) := by
  show IntKind.i64.wrap ((BitVec.ofInt 64 (a : Int) &&& BitVec.ofInt 64 (b : Int)).toNat : Int) = _
  rw [BitVec.toNat_and, ofInt64 a (by omega), ofInt64 b (by omega)]
  exact wrap64_nat _ (Nat.lt_of_le_of_lt Nat.and_le_left ha)
theorem i64_xor (a b : Nat) (ha : a < 9223372036854775808) (hb : b < 9223372036854775808) : bits .xor .i64 (a : Int) (b : Int) = ((a ^^^ b : Nat) : Int) := by
  show IntKind.i64.wrap ((BitVec.ofInt 64 (a : Int) ^^^ BitVec.ofInt 64 (b : Int)).toNat : Int) = _
  rw [BitVec.toNat_xor, ofInt64 a (by omega), ofInt64 b (by omega)]
  exact wrap64_nat _ (Nat.xor_lt_two_pow (n := 63) (by omega) (by omega))
@[go_sem] theorem n_and (a b : BitVec 32) : bits .and .i64 (n32 a) (n32 b) = n32 (a &&& b) := by
  have h1 := a.isLt; have h2 := b.isLt
  unfold n32; rw [i64_and _ _ (by omega) (by omega), BitVec.toNat_and]
@[go_sem] theorem n_xor (a b : BitVec 32) : bits .xor .i64 (n32 a) (n32 b) = n32 (a ^^^ b) := by
  have h1 := a.isLt; have h2 := b.isLt
  unfold n32; rw [i64_xor _ _ (by omega) (by omega), BitVec.toNat_xor]
@[go_sem] theorem n_not (a : BitVec 32) : bits .xor .i64 (4294967295 : Int) (n32 a) = n32 (~~~a) := by
  have h : (4294967295 : Int) = n32 (BitVec.allOnes 32) := by decide
  rw [h, n_xor, BitVec.allOnes_xor]
@[go_sem] theorem shr3 (a : BitVec 32) : n32 a / (8 : Int) = n32 (a >>> 3) := u32_shr a 3
@[go_sem] theorem shr10 (a : BitVec 32) : n32 a / (1024 : Int) = n32 (a >>> 10) := u32_shr a 10
end Ref
end Go.Proofs.YtjkbpdobeljmjaaGreatDoor

/- The walk of the reference's Sum. -/
namespace Go.Proofs.YtjkbpdobeljmjaaGreatDoor
open Go.RowKit Bits Mem Sha
namespace Ref
@[go_sem] theorem shr24 (a : BitVec 32) : n32 a / (16777216 : Int) = n32 (a >>> 24) := u32_shr a 24
@[go_sem] theorem shr16 (a : BitVec 32) : n32 a / (65536 : Int) = n32 (a >>> 16) := u32_shr a 16
@[go_sem] theorem shr8 (a : BitVec 32) : n32 a / (256 : Int) = n32 (a >>> 8) := u32_shr a 8
end Ref
end Go.Proofs.YtjkbpdobeljmjaaGreatDoor

/- A number's eight bytes (plain). -/
namespace Go.Proofs.YtjkbpdobeljmjaaGreatDoor
open Sha
namespace Num8
def u64 (n : Int) : Nat := (n % 18446744073709551616).toNat
def eight (n : Int) : List UInt8 := be (u64 n) 8
theorem eight_length (n : Int) : (eight n).length = 8 := be_length _ _
end Num8
end Go.Proofs.YtjkbpdobeljmjaaGreatDoor

/- How a member stands: its text, exactly. Conditions: none beyond the bounds of bytes. -/
namespace Go.Proofs.YtjkbpdobeljmjaaGreatDoor
open Go.RowKit Bits Mem Sha
namespace Stn
theorem u64_wrap (n : Int) : IntKind.u64.wrap n = (Num8.u64 n : Int) := by rw [IntKind.wrap_u64]; unfold Num8.u64; omega
theorem byte8_at (u j : Nat) (hj : j < 8) : (u : Int) / 2 ^ (56 - 8 * j) % 256 = ((UInt8.ofNat (u / 2 ^ (8 * (7 - j)))).toNat : Int) := by
  rw [UInt8.toNat_ofNat', show 8 * (7 - j) = 56 - 8 * j from by omega]; simp
theorem info8b : (Tryz.prog.info? 5).map (fun i => (i.zero, i.size, i.bytes)) = some (some (.int .u8 0), 1, 1) := by kernel_rfl
set_option maxRecDepth 100000 in
set_option maxHeartbeats 1000000 in
theorem number8_any (n : Int) (w : World) :
    Calls Tryz.prog 59 #[.int .i64 n] w fun e w' => ∃ q c, e = .returned (.slice q 8 c) ∧ Ow w' w.heap.size 5 1 (.slice q 8 c) 8 (bys (Num8.eight n)) ∧ Below w.heap.size w w' := by
  have hwu := u64_wrap n
  obtain ⟨u, hu⟩ : ∃ u, u = Num8.u64 n := ⟨_, rfl⟩
  rw [← hu] at hwu
  have HU := Lib.hid hu
  clear hu
  obtain ⟨i0, hi, hz0, hz1, hz2⟩ := parts3M info8b
  go_enter Tryz.func59, Tryz.ntmps59
  go_wp2_with fail
  go_loopw [3, 4] (fun v i wr => ∃ (j : Nat) (q : Option Addr) (c : Nat), j ≤ 8 ∧ i = .int .i64 (7 - (j : Int)) ∧ v = .slice q j c ∧ Ow wr w.heap.size 5 1 (.slice q j c) j (bys (be u j)) ∧ Below w.heap.size w wr) (fun _ i _ => (intOf i + 1).toNat)
  case atStart => exact ⟨0, none, 0, by omega, rfl, rfl, Ow.nil _ _ _ _, Below.refl _ _⟩
  case round =>
    obtain ⟨j, qj, cj, hj, rfl, rfl, hown, hb⟩ := hrel
    have hszw := hb.size
    by_cases hlt : j < 8
    · have hge : (0 : Int) ≤ 7 - (j : Int) := by omega
      have hx := byte8_at u j hlt
      have HSUC := Lib.hid (be_succ u j)
      obtain ⟨x, hxe⟩ : ∃ x, x = UInt8.ofNat (u / 2 ^ (8 * (7 - j))) := ⟨_, rfl⟩
      rw [← hxe] at hx HSUC
      rw [show 56 - 8 * j = 8 * (7 - j) by omega] at hx
      have h7 : (0 : Int) ≤ 8 * (7 - (j : Int)) := by omega
      have ht : (8 * (7 - (j : Int))).toNat = 8 * (7 - j) := by omega
      have HR1 : Hid (∀ w1 : World, Rd (w1.alloc (.cells #[.int .u8 (x.toNat : Int)] 5)) 1 (.slice (some ⟨w1.heap.size, 0, none⟩) 1 1) 1 (bys [x])) := Lib.hid (fun w1 => Rd_lit w1 #[.int .u8 (x.toNat : Int)] 5 1 1 rfl (by decide))
      clear hxe
      go_wp2_with (at_builtin; have ho := hown.alloc (.cells #[.int .u8 (x.toNat : Int)] 5); go_must (refine app_ow3 rfl _ _ 31 31 rfl w.heap.size 5 i0 (.int .u8 0) 1 1 Tryz.underlying31 hi hz0 hz1 hz2 rfl _ j _ rfl ho 1 _ rfl (Rd.src Tryz.underlying31 (HR1.out _) (bys_one [x])) (by unfold maxLen; omega) (by omega) (by rw [World.size_alloc]; omega) ?_); go_must (intro v3 w3 how3 hg3 hn3); go_must (obtain ⟨q3, c3, rfl⟩ := Ow_form how3); go_must (have hb3 : Below w.heap.size w w3 := (hb.alloc hszw _).grown hg3 (by rw [World.size_alloc]; omega) (fun k hk => (ho.lt k hk).1)); clear hown ho hg3 hn3)
      have HO3 := Lib.hid how3; clear how3
      refine ⟨⟨j + 1, q3, c3, by omega, by congr 1; omega, rfl, ?_, hb3⟩, ?_⟩
      · rw [HSUC.out, bys_append]; exact HO3.out
      · simp [intOf]; omega
    · obtain rfl : j = 8 := by omega
      rw [show (7 - ((8 : Nat) : Int)) = -1 from rfl]
      have HO3 := Lib.hid hown
      clear hown
      go_wp2_with fail
      go_ret
      exact ⟨qj, cj, rfl, by unfold Num8.eight; rw [← HU.out]; exact HO3.out, hb⟩
def PartAt (C : Array Value) (off : Nat) (D : Array Value) : Prop := ∀ (j : Nat) (v : Value), D[j]? = some v → C[off + j]? = some v
theorem PartAt.self (C : Array Value) : PartAt C 0 C := fun j v hv => by rw [Nat.zero_add]; exact hv
theorem PartAt.cell {w : World} {g o j : Nat} {C D : Array Value} {t : TypeId} {f : Nat × Nat} {v : Value} (hp : PartAt C o D) (h : w.heap[g]? = some (.cells C t f)) (hv : D[j]? = some v) : w.cell? ⟨g, o + j, none⟩ = some v := (cell_of_row w g _ _ _ _ h).trans (hp j v hv)
theorem PartAt.rd {w : World} {g o n : Nat} {C : Array Value} {t : TypeId} {f : Nat × Nat} {l : List UInt8} (hp : PartAt C o (bysA l)) (h : w.heap[g]? = some (.cells C t f)) (hn : l.length = n) (hm : n ≤ maxLen) : Rd w 1 (.slice (some ⟨g, o, none⟩) n n) n (bys l) := by
  subst hn
  refine ⟨by rw [bys_length]; omega, .inr ⟨g, o, l.length, rfl, lt_of_heap h, Nat.le_refl _, hm, fun j u hu => ?_⟩⟩
  exact hp.cell h (by simpa [bysA] using hu)
theorem PartAt.load {w : World} {g o : Nat} {t : TypeId} {C D : Array Value} {fz : Nat × Nat} {T : TypeId} {d : TypeDesc} (hp : PartAt C o D) (h : w.heap[g]? = some (.cells C t fz)) (hu : Tryz.prog.underlying T = some d) (ha : d.isRow = true) (hi : (Tryz.prog.info? T).map (·.size) = some D.size) : (Instr.loadAt T (.pointer (some ⟨g, o, none⟩))).run Tryz.prog w = .ok (.agg D) w := Fnd.load_part h hp hu ha hi
theorem below_setRow {w x : World} {g : Nat} {C : Array Value} (h : Below w.heap.size w x) (hg : w.heap.size ≤ g) : Below w.heap.size w (x.setRow g C) := Rg.below_setRow h hg _
theorem info32r (s : List UInt8) (h : s.length = 32) : (Tryz.prog.info? 22).map (·.size) = some (bysA s).size := by
  rw [bysA_size, h]
  kernel_rfl
end Stn
end Go.Proofs.YtjkbpdobeljmjaaGreatDoor

/- A member's text and its sum. Conditions: none beyond the bounds of bytes. -/
namespace Go.Proofs.YtjkbpdobeljmjaaGreatDoor
open Go.RowKit Bits Mem Sha
namespace Stn
theorem Ow.lit1 (w : World) (x : UInt8) : Ow (w.alloc (.cells #[.int .u8 (x.toNat : Int)] 5)) w.heap.size 5 1 (.slice (some ⟨w.heap.size, 0, none⟩) 1 1) 1 (bys [x]) := Ow.lit w #[.int .u8 (x.toNat : Int)] 5 1 1 w.heap.size (Nat.le_refl _) (by decide) rfl
end Stn
end Go.Proofs.YtjkbpdobeljmjaaGreatDoor

/- The walks of custumallaw22.tables and TenantNil. -/
namespace Go.Proofs.YtjkbpdobeljmjaaGreatDoor
open Go.RowKit Bits Mem Sha Cad
namespace Mem
theorem l_buildT {P : Program} {ops : Array Oper} {Q : Exit → Act → World → Prop} {a : Act} {w : World} {o : Oper} {rest : List Oper} (hg : o.guard = none) (t : TypeId) (parts : Array (Nat × Operand)) (ho : o.op = .build t parts) (cs : Array Value)
    (hb : P.built t (parts.map fun (i, x) => (i, a.eval x)).toList = some cs)
    (h : wpList P ops Q rest (a.put o.dst (.agg cs)) w) : wpList P ops Q (o :: rest) a w :=
  wpList_plain hg fun K hK => by
    unfold Oper.wp execOp
    simp only [ho, Sem.run_bind, run_build w t _ cs hb, Result.andThen_ok, Sem.run_pure]
    exact hK _ _ h
end Mem
end Go.Proofs.YtjkbpdobeljmjaaGreatDoor

/- super's parts: New, the empty tree's root, a root's text, LogRoot, Consistency. Conditions: sha2's tables lie. -/
namespace Go.Proofs.YtjkbpdobeljmjaaGreatDoor
set_option linter.unusedVariables false
set_option linter.unusedSimpArgs false
open Go.RowKit Bits Mem Sha
namespace Gr
open Stn
open Ref (RdL OwL All32 leafS treeS subS rootAns results_cell_slot info_zero load_whole range_list z32r)
theorem z32S : (#[.int .u8 0, .int .u8 0, .int .u8 0, .int .u8 0, .int .u8 0, .int .u8 0, .int .u8 0, .int .u8 0, .int .u8 0, .int .u8 0, .int .u8 0, .int .u8 0, .int .u8 0, .int .u8 0, .int .u8 0, .int .u8 0, .int .u8 0, .int .u8 0, .int .u8 0, .int .u8 0, .int .u8 0, .int .u8 0, .int .u8 0, .int .u8 0, .int .u8 0, .int .u8 0, .int .u8 0, .int .u8 0, .int .u8 0, .int .u8 0, .int .u8 0, .int .u8 0] : Array Value) = bysA zeros32 := rfl
theorem l_loadP {P : Program} {ops : Array Oper} {Q : Exit → Act → World → Prop} {a : Act} {w : World} {o : Oper} {rest : List Oper} (hg : o.guard = none) (ty : TypeId) (y : Operand) (ho : o.op = .load ty y) (p : Value) (hy : a.eval y = p) (v : Value)
    (hrun : (Instr.loadAt ty p).run P w = .ok v w) (h : wpList P ops Q rest (a.put o.dst v) w) : wpList P ops Q (o :: rest) a w := l_load hg ty y ho v (by rw [hy]; exact hrun) h
def rootT (n : Int) (l : List UInt8) : List UInt8 := [8] ++ Num8.eight n ++ l
theorem rootT_length (n : Int) {l : List UInt8} (h : l.length = 32) : (rootT n l).length = 41 := by unfold rootT; simp [h, Num8.eight_length]
set_option maxRecDepth 100000 in
set_option maxHeartbeats 4000000 in
theorem empty_any {w : World} (hS : Sha.Tabs w) : Calls Tryz.prog 58 #[] w fun e w' => e = .returned (.agg (bysA (sha [2]))) ∧ Below w.heap.size w w' := by
  obtain ⟨w1, hw1⟩ : ∃ w1, w1 = w.alloc (.cells (bysA zeros32) 22) := ⟨_, rfl⟩
  have hb1 : Below w.heap.size w w1 := by rw [hw1]; exact (Below.refl _ _).alloc (Nat.le_refl _) _
  have hr1 : w1.heap[w.heap.size]? = some (.cells (bysA zeros32) 22 (0, 0)) := by rw [hw1]; exact heap_alloc_new w _
  obtain ⟨w2, hw2⟩ : ∃ w2, w2 = w1.alloc (.cells #[.int .u8 2] 5) := ⟨_, rfl⟩
  have hb2 : Below w1.heap.size w1 w2 := by rw [hw2]; exact (Below.refl _ _).alloc (Nat.le_refl _) _
  have hr2 : Rd w2 1 (.slice (some ⟨w1.heap.size, 0, none⟩) 1 1) 1 (bys [2]) := by rw [hw2]; exact Rd_lit w1 #[.int .u8 2] 5 1 1 rfl (by decide)
  obtain ⟨w3, hw3⟩ : ∃ w3, w3 = w2.alloc (.cells #[.slice (some ⟨w1.heap.size, 0, none⟩) 1 1] 31) := ⟨_, rfl⟩
  have hb3 : Below w2.heap.size w2 w3 := by rw [hw3]; exact (Below.refl _ _).alloc (Nat.le_refl _) _
  have hb13 := hb2.trans (hb3.mono hb2.size)
  have HB3 := Lib.hid (hb1.trans (hb13.mono hb1.size))
  have HR3 := Lib.hid (Rp.row_le hb13 hr1)
  have HSU : Hid (Calls Tryz.prog 54 #[.slice (some ⟨w2.heap.size, 0, none⟩) 1 1] w3 fun e w' => e = .returned (.agg (bysA (sha [2]))) ∧ Below w3.heap.size w3 w') := Lib.hid (by
    have := parts_any (some ⟨w2.heap.size, 0, none⟩) 1 [[2]] w3 (hS.below (hb1.trans (hb13.mono hb1.size))) (by rw [hw3]; exact Fnd.partsF w2 [2] _ ⟨_, _, rfl, hr2⟩) (by simp)
    simpa using this)
  have HM := Lib.hid (sha_length [2])
  obtain ⟨R, hR⟩ : ∃ R, R = sha [2] := ⟨_, rfl⟩
  rw [← hR] at HM HSU ⊢
  have HIM := Lib.hid (info32r R HM.out)
  have hs1 : w1.heap.size = w.heap.size + 1 := by rw [hw1]; simp
  have hs2 : w2.heap.size = w.heap.size + 1 + 1 := by rw [hw2]; simp [hs1]
  rw [hs2] at HSU
  have HW3 : Hid (w3 = ((w.alloc (.cells (bysA zeros32) 22)).alloc (.cells #[.int .u8 2] 5)).alloc (.cells #[.slice (some ⟨w.heap.size + 1, 0, none⟩) 1 1] 31)) := Lib.hid (by rw [hw3, hs1, hw2, hw1])
  clear hS hw1 hw2 hw3 hb1 hb2 hb3 hb13 hr1 hr2 hR hs1 hs2
  go_enter Tryz.func58, Tryz.ntmps58
  go_wp2_with fail
  rw [z32S, ← HW3.out]
  refine HSU.out.mono ?_
  rintro e w4 ⟨rfl, hb4⟩
  have HR4 := Lib.hid (Rp.row_le hb4 HR3.out)
  have HB4 := Lib.hid (HB3.out.trans (hb4.mono HB3.out.size))
  clear hb4
  go_wp2_with (refine Rg.store_row rfl 22 _ _ rfl w.heap.size rfl 22 (bysA zeros32) (bysA R) rfl HR4.out HIM.out (by rw [bysA_size, bysA_size, HM.out]; rfl) (bysA_one _) ?_)
  refine bodyPost_ret (v := .agg (bysA R)) (results_cell_row (P := Tryz.prog) rfl _ _ w.heap.size 22 (bysA R) (0, 0) _ rfl (setRow_heap _ _ _ _ 22 _ HR4.out) Tryz.underlying22 rfl HIM.out) rfl ⟨rfl, ?_⟩
  exact Rg.below_setRow HB4.out (Nat.le_refl _) _
set_option maxRecDepth 100000 in
set_option maxHeartbeats 2000000 in
theorem stextX (n : Int) (l : List UInt8) (hl : l.length = 32) (w : World) :
    Calls Tryz.prog 29 #[.int .i64 n, .agg (bysA l)] w fun e w' => ∃ q c, e = .returned (.slice q 41 c) ∧ Ow w' w.heap.size 5 1 (.slice q 41 c) 41 (bys (rootT n l)) ∧ Below w.heap.size w w' := by
  obtain ⟨i0, hi, hz0, hz1, hz2⟩ := parts3M info8b
  obtain ⟨wz, hwz⟩ : ∃ wz, wz = w.alloc (.cells (bysA l) 22) := ⟨_, rfl⟩
  have hbz : Below w.heap.size w wz := by rw [hwz]; exact (Below.refl _ _).alloc (Nat.le_refl _) _
  have hrz : wz.heap[w.heap.size]? = some (.cells (bysA l) 22 (0, 0)) := by rw [hwz]; exact heap_alloc_new w _
  obtain ⟨T, hT⟩ : ∃ T, T = rootT n l := ⟨_, rfl⟩
  have HTE : Hid (([8] ++ Num8.eight n) ++ l = T) := Lib.hid (by rw [hT]; rfl)
  rw [← hT]
  have HL := Lib.hid hl
  have HBZ := Lib.hid hbz
  have HRZ := Lib.hid hrz
  have HWZ := Lib.hid hwz
  clear hT hl hwz hbz hrz
  go_enter Tryz.func29, Tryz.ntmps29
  go_upto_region 1 with fail
  rw [← HWZ.out]
  refine Rc.region (wz.heap.size) 6 [Rc.F 0 (fun p => .slice p.q 1 p.c) (fun p F y => OwF F y wz.heap.size 5 1 (.slice p.q 1 p.c) 1 (bys [8])), Rc.F 2 (fun p => .slice p.q 8 p.c) (fun p _ y => Rd y 1 (.slice p.q 8 p.c) 8 (bys (Num8.eight n))), Rc.C 3 [0, 2] [0] (fun p => .slice p.q 9 p.c) (fun p F y => OwF F y wz.heap.size 5 1 (.slice p.q 9 p.c) 9 (bys ([8] ++ Num8.eight n))), Rc.C 5 [3] [3] (fun p => .slice p.q 41 p.c) (fun p F y => OwF F y wz.heap.size 5 1 (.slice p.q 41 p.c) 41 (bys T))] [5] (by kernel_rfl) (Nat.le_refl _) (by kernel_rfl) ?_; intro p; simp only [List.take, List.drop]
  refine Rc.fK rfl rfl rfl rfl ?_ ?_
  · intro x Fs hx hle hg K hK
    have how := Ow.lit1 x 8
    go_wp2_with fail
    exact hK ⟨some ⟨x.heap.size, 0, none⟩, 1, undef⟩ _ ((Below.refl _ _).alloc (Nat.le_refl _) _) (fun F y hF hy => OwF.fresh how hle hF hy)
  intro K hK; go_simp; refine hK _ ?_; clear hK K
  iterate 1 (refine Rc.rK rfl rfl ?_; intro K hK; apply Exists.intro; refine ⟨?_, ?_⟩; (focus (intro x hx;  go_simp; (first | (fail) | ((try go_bits); (try go_simp); (try rfl))))); go_simp; refine hK _ ?_; clear hK K)
  refine Rc.fK rfl rfl rfl rfl ?_ ?_
  · intro x Fs hx hle hg K hK
    go_wp2_with fail
    refine (number8_any n x).mono ?_
    rintro e x' ⟨q', c', rfl, hown, hb⟩
    go_wp2_with fail
    exact hK ⟨q', c', undef⟩ x' hb (fun F y hF hy => Rd.of_ow (OwF.fresh hown hle hF hy).1)
  intro K hK; go_simp; refine hK _ ?_; clear hK K
  refine Rc.cK rfl rfl rfl ?_ ?_
  · intro x Fs hx hle hg K hK
    have HO : Hid (OwF (Fs 0) x wz.heap.size 5 1 (.slice (p 0).q 1 (p 0).c) 1 (bys [8])) := Lib.hid hg.1
    have hrl : Rd x 1 (.slice (p 2).q 8 (p 2).c) 8 (bys (Num8.eight n)) := hg.2.1
    refine app_ow3 rfl _ _ 31 31 rfl wz.heap.size 5 i0 (.int .u8 0) 1 1 Tryz.underlying31 hi hz0 hz1 hz2 rfl _ 1 _ rfl HO.out.1 8 _ rfl (Rd.src Tryz.underlying31 hrl (bys_one _)) (by decide) (by decide) hle ?_
    intro v' x' how hg' hor
    obtain ⟨q', c', rfl⟩ := Ow_form how
    rw [← bys_append] at how
    have how : Mem.Ow x' wz.heap.size 5 1 (.slice q' 9 c') 9 (bys ([8] ++ Num8.eight n)) := how
    go_wp2_with fail
    exact hK ⟨q', c', undef⟩ x' (HO.out.eff (by simp [Rc.C]) hg') (fun y hy => HO.out.next (by simp [Rc.C]) how hor hy)
  intro K hK; go_simp; refine hK _ ?_; clear hK K
  iterate 1 (refine Rc.rK rfl rfl ?_; intro K hK; apply Exists.intro; refine ⟨?_, ?_⟩; (focus (intro x hx;  go_simp; (first | (fail) | ((try go_bits); (try go_simp); (try rfl))))); go_simp; refine hK _ ?_; clear hK K)
  refine Rc.cK rfl rfl rfl ?_ ?_
  · intro x Fs hx hle hg K hK
    have HO : Hid (OwF (Fs 3) x wz.heap.size 5 1 (.slice (p 3).q 9 (p 3).c) 9 (bys ([8] ++ Num8.eight n))) := Lib.hid hg.1
    have hrl := (PartAt.self _).rd (Rp.row_le (Rc.undrew hx) HRZ.out) HL.out (by decide)
    refine app_ow3 rfl _ _ 31 31 rfl wz.heap.size 5 i0 (.int .u8 0) 1 1 Tryz.underlying31 hi hz0 hz1 hz2 rfl _ 9 _ rfl HO.out.1 32 _ rfl (Rd.src Tryz.underlying31 hrl (bys_one _)) (by decide) (by decide) hle ?_
    intro v' x' how hg' hor
    obtain ⟨q', c', rfl⟩ := Ow_form how
    rw [← bys_append, HTE.out] at how
    have how : Mem.Ow x' wz.heap.size 5 1 (.slice q' 41 c') 41 (bys T) := how
    go_wp2_with fail
    exact hK ⟨q', c', undef⟩ x' (HO.out.eff (by simp [Rc.C]) hg') (fun y hy => HO.out.next (by simp [Rc.C]) how hor hy)
  intro K hK; go_simp; refine hK _ ?_; clear hK K
  refine Rc.done fun x Fs hx hle hg => ?_
  have how : OwF _ x wz.heap.size 5 1 (.slice (p 5).q 41 (p 5).c) 41 (bys T) := hg.1
  obtain ⟨q7, hq7⟩ : ∃ q7, q7 = (p 5).q := ⟨_, rfl⟩
  obtain ⟨c7, hc7⟩ : ∃ c7, c7 = (p 5).c := ⟨_, rfl⟩
  rw [← hq7, ← hc7] at how ⊢
  have HO := Lib.hid (how.1.base_le HBZ.out.size)
  have HB := Lib.hid (HBZ.out.trans ((Rc.undrew hx).mono HBZ.out.size))
  clear hx hle hg hq7 hc7 how
  go_wp2_with fail
  refine NoPanic.normal ?_
  go_wp2_with fail
  go_ret
  exact ⟨q7, c7, rfl, HO.out, HB.out⟩
set_option maxRecDepth 100000 in
set_option maxHeartbeats 1000000 in
theorem over_nil (w : World) : Calls Tryz.prog 27 #[.slice none 0 0] w fun e w' => e = .returned (.pointer none) ∧ w' = w := by
  go_enter Tryz.func27, Tryz.ntmps27
  go_wp2_with fail
  go_loopw [3, 8] (fun tv iv wr => tv = .pointer none ∧ iv = .int .i64 0 ∧ wr = w) (fun _ iv _ => 1)
  case atStart => exact ⟨rfl, rfl, rfl⟩
  case round =>
    obtain ⟨rfl, rfl, rfl⟩ := hrel
    go_wp2_with fail
    go_ret
    exact ⟨rfl, rfl⟩
set_option maxRecDepth 100000 in
set_option maxHeartbeats 1000000 in
theorem troot_nil {w : World} (hS : Sha.Tabs w) : Calls Tryz.prog 28 #[.pointer none] w fun e w' => e = .returned (.agg (bysA (sha [2]))) ∧ Below w.heap.size w w' := by
  obtain ⟨w1, hw1⟩ : ∃ w1, w1 = w.alloc (.cells (bysA zeros32) 22) := ⟨_, rfl⟩
  have hb1 : Below w.heap.size w w1 := by rw [hw1]; exact (Below.refl _ _).alloc (Nat.le_refl _) _
  have HR1 : Hid (w1.heap[w.heap.size]? = some (.cells (bysA zeros32) 22 (0, 0))) := Lib.hid (by rw [hw1]; exact heap_alloc_new w _)
  have HE := Lib.hid (empty_any (hS.below hb1))
  have HM := Lib.hid (sha_length [2])
  obtain ⟨R, hR⟩ : ∃ R, R = sha [2] := ⟨_, rfl⟩
  rw [← hR] at HM HE ⊢
  have HIM := Lib.hid (info32r R HM.out)
  have HW1 := Lib.hid hw1
  have HB1 := Lib.hid hb1
  clear hS hw1 hb1 hR
  go_enter Tryz.func28, Tryz.ntmps28
  go_wp2_with fail
  rw [z32S, ← HW1.out]
  refine HE.out.mono ?_
  rintro e w2 ⟨rfl, hb2⟩
  have HR2 := Lib.hid (Rp.row_le hb2 HR1.out)
  have HB2 := Lib.hid (HB1.out.trans (hb2.mono HB1.out.size))
  clear hb2
  go_wp2_with (refine Rg.store_row rfl 22 _ _ rfl w.heap.size rfl 22 (bysA zeros32) (bysA R) rfl HR2.out HIM.out (by rw [bysA_size, bysA_size, HM.out]; rfl) (bysA_one _) ?_)
  refine bodyPost_ret (v := .agg (bysA R)) (results_cell_row (P := Tryz.prog) rfl _ _ w.heap.size 22 (bysA R) (0, 0) _ rfl (setRow_heap _ _ _ _ 22 _ HR2.out) Tryz.underlying22 rfl HIM.out) rfl ⟨rfl, ?_⟩
  exact Rg.below_setRow HB2.out (Nat.le_refl _) _
def supC (seed : List UInt8) (tp lv sv : Value) : Array Value := bysA seed ++ #[tp, lv, sv]
theorem supC_at {seed : List UInt8} (h : seed.length = 32) (tp lv sv : Value) : (supC seed tp lv sv)[32]? = some tp ∧ (supC seed tp lv sv)[33]? = some lv ∧ (supC seed tp lv sv)[34]? = some sv := by
  unfold supC
  refine ⟨?_, ?_, ?_⟩ <;> rw [Array.getElem?_append_right (by rw [bysA_size, h]; decide), bysA_size, h] <;> rfl
theorem supC_seed {seed : List UInt8} (tp lv sv : Value) : PartAt (supC seed tp lv sv) 0 (bysA seed) := fun j u hu => by
  unfold supC
  rw [Nat.zero_add, Array.getElem?_append_left (Array.getElem?_eq_some_iff.1 hu).1]
  exact hu
theorem supC_set {seed : List UInt8} (h : seed.length = 32) (tp lv sv v : Value) : (supC seed tp lv sv).setIfInBounds 32 v = supC seed v lv sv ∧ (supC seed tp lv sv).setIfInBounds 33 v = supC seed tp v sv ∧ (supC seed tp lv sv).setIfInBounds 34 v = supC seed tp lv v := by
  have key : ∀ j, (supC seed tp lv sv).setIfInBounds (32 + j) v = bysA seed ++ (#[tp, lv, sv] : Array Value).setIfInBounds j v := fun j => by
    unfold supC
    refine Array.ext_getElem? fun i => ?_
    rw [Array.getElem?_setIfInBounds, Array.getElem?_append]
    have hs : (bysA seed).size = 32 := by rw [bysA_size, h]
    rw [Array.getElem?_append, hs, Array.size_append, hs]
    by_cases hi : i < 32
    · rw [if_neg (by omega), if_pos hi, if_pos hi]
    · rw [if_neg hi, if_neg hi, Array.getElem?_setIfInBounds]
      by_cases hj : 32 + j = i
      · subst hj
        simp
        by_cases h3 : j < 3
        · rw [if_pos (by omega), if_pos h3]
        · rw [if_neg (by omega), if_neg h3]
      · rw [if_neg hj, if_neg (by omega)]
  exact ⟨key 0, key 1, key 2⟩
theorem supC_built0 (g : Nat → UInt8) : Tryz.prog.built 117 [(0, .agg (bysA ((List.range 32).map g)))] = some (supC ((List.range 32).map g) (.pointer none) (.slice none 0 0) (.slice none 0 0)) := by kernel_rfl
theorem supC_built (s : List UInt8) (h : s.length = 32) : Tryz.prog.built 117 [(0, .agg (bysA s))] = some (supC s (.pointer none) (.slice none 0 0) (.slice none 0 0)) := by
  have := supC_built0 (fun i => s.getD i 0)
  rwa [range_list s h] at this
set_option maxRecDepth 100000 in
set_option maxHeartbeats 1000000 in
theorem supNew_any (seed : List UInt8) (hs : seed.length = 32) (w : World) :
    Calls Tryz.prog 13 #[.agg (bysA seed)] w fun e w' => e = .returned (.pointer (some ⟨w.heap.size + 1, 0, none⟩)) ∧ w' = (w.alloc (.cells (bysA seed) 22)).alloc (.cells (supC seed (.pointer none) (.slice none 0 0) (.slice none 0 0)) 117) := by
  obtain ⟨w1, hw1⟩ : ∃ w1, w1 = w.alloc (.cells (bysA seed) 22) := ⟨_, rfl⟩
  have hr1 : w1.heap[w.heap.size]? = some (.cells (bysA seed) 22 (0, 0)) := by rw [hw1]; exact heap_alloc_new w _
  have hs1 : w1.heap.size = w.heap.size + 1 := by rw [hw1]; simp
  obtain ⟨C, hC⟩ : ∃ C, C = supC seed (.pointer none) (.slice none 0 0) (.slice none 0 0) := ⟨_, rfl⟩
  have HBU : Hid (Tryz.prog.built 117 [(0, .agg (bysA seed))] = some C) := Lib.hid (by rw [hC]; exact supC_built seed hs)
  rw [← hC]
  have HLD := Lib.hid (load_whole hr1 hs)
  have HW1 := Lib.hid hw1
  have HS1 := Lib.hid hs1
  clear hC hw1 hr1 hs1
  go_enter Tryz.func13, Tryz.ntmps13
  go_upto_region 1 with fail
  rw [← HW1.out]
  go_wp2_with (first | (refine l_loadP rfl _ _ rfl (.pointer (some ⟨w.heap.size, 0, none⟩)) rfl (.agg (bysA seed)) HLD.out ?_) | (refine l_buildT rfl 117 _ rfl C (by simp only [List.map_toArray, List.map_cons, List.map_nil]; exact HBU.out) ?_))
  go_ret
  refine ⟨?_, by rw [HW1.out]⟩
  show Ending.returned (.pointer (some ⟨w1.heap.size, 0, none⟩)) = _
  rw [HS1.out]
set_option maxRecDepth 100000 in
set_option maxHeartbeats 1000000 in
theorem suproot_any (ub base : Nat) (C : Array Value) (q : Option Addr) (c : Nat) (D : List (List UInt8)) (n : Nat) (w : World) (hS : Sha.Tabs w) (h : Rs.LogAt w ub 34 C 117 base q c D) (hD : D.length ≤ 1000) (hn : n ≤ D.length) :
    Calls Tryz.prog 95 #[.pointer (some ⟨ub, 0, none⟩), .int .i64 n] w fun e w' => e = .returned (.tuple #[.agg (bysA (treeS (D.take n))), .int .i64 0]) ∧ Below w.heap.size w w' := by
  obtain ⟨w1, hw1⟩ : ∃ w1, w1 = w.alloc (.cells (bysA zeros32) 22) := ⟨_, rfl⟩
  have hb1 : Below w.heap.size w w1 := by rw [hw1]; exact (Below.refl _ _).alloc (Nat.le_refl _) _
  have HR1 : Hid (w1.heap[w.heap.size]? = some (.cells (bysA zeros32) 22 (0, 0))) := Lib.hid (by rw [hw1]; exact heap_alloc_new w _)
  have hlr := Rs.logroot_any ub 34 base C 117 q c D n w1 (hS.below hb1) (h.below hb1) hD
  have hra : rootAns D n = .tuple #[.agg (bysA (treeS (D.take n))), .int .i64 0] := by unfold rootAns; rw [if_pos (by omega)]; rfl
  rw [hra] at hlr
  obtain ⟨R, hR⟩ : ∃ R, R = treeS (D.take n) := ⟨_, rfl⟩
  have HRL : Hid (R.length = 32) := Lib.hid (by rw [hR]; exact Ref.treeS_length _ (h.2.1.take n))
  rw [← hR] at hlr ⊢
  have HIR := Lib.hid (info32r R HRL.out)
  have HLR := Lib.hid hlr
  have HW1 := Lib.hid hw1
  have HB1 := Lib.hid hb1
  clear hS h hw1 hb1 hlr hra hR
  go_enter Tryz.func95, Tryz.ntmps95
  go_wp2_with fail
  rw [z32S, ← HW1.out]
  refine HLR.out.mono ?_
  rintro e w2 ⟨rfl, hb2⟩
  have HR2 := Lib.hid (Rp.row_le hb2 HR1.out)
  have HB2 := Lib.hid (HB1.out.trans (hb2.mono HB1.out.size))
  clear hb2
  go_wp2_with (refine Rg.store_row rfl 22 _ _ rfl w.heap.size rfl 22 (bysA zeros32) (bysA R) rfl HR2.out HIR.out (by rw [bysA_size, bysA_size, HRL.out]; rfl) (bysA_one _) ?_)
  refine bodyPost_ret (v := .tuple #[.agg (bysA R), .int .i64 0]) (results_cell_slot (P := Tryz.prog) rfl _ _ w.heap.size 22 (bysA R) (0, 0) _ _ rfl (setRow_heap _ _ _ _ 22 _ HR2.out) rfl Tryz.underlying22 rfl HIR.out) rfl ⟨rfl, ?_⟩
  exact Rg.below_setRow HB2.out (Nat.le_refl _) _
set_option maxRecDepth 100000 in
set_option maxHeartbeats 1000000 in
theorem supcons_any (ub base : Nat) (C : Array Value) (q : Option Addr) (c : Nat) (D : List (List UInt8)) (m n : Nat) (w : World) (hS : Sha.Tabs w) (h : Rs.LogAt w ub 34 C 117 base q c D) (hD : D.length ≤ 1000) (hn : n ≤ D.length) (hmn : m ≤ n) :
    Calls Tryz.prog 94 #[.pointer (some ⟨ub, 0, none⟩), .int .i64 m, .int .i64 n] w fun e w' =>
      ∃ q' c', e = .returned (.tuple #[.slice q' (subS (D.take n) m true).length c', .int .i64 0]) ∧ OwL w' w.heap.size (.slice q' (subS (D.take n) m true).length c') (subS (D.take n) m true) ∧ Below w.heap.size w w' := by
  have HC := Lib.hid (Rs.consistency_any ub 34 base C 117 q c D m n w hS h hD hn hmn)
  obtain ⟨P, hP⟩ : ∃ P, P = subS (D.take n) m true := ⟨_, rfl⟩
  rw [← hP] at HC ⊢
  clear hS h hP
  go_enter Tryz.func94, Tryz.ntmps94
  go_wp2_with fail
  refine HC.out.mono ?_
  rintro e w2 ⟨q', c', rfl, ho, hb⟩
  have HO := Lib.hid ho
  have HB := Lib.hid hb
  clear ho hb
  go_wp2_with fail
  go_ret2
  exact ⟨q', c', rfl, HO.out, HB.out⟩
end Gr
end Go.Proofs.YtjkbpdobeljmjaaGreatDoor


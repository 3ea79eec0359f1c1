/- A part of the proof. Plain; no condition. -/
import Derived.Test.YtjkbpdobeljmjaaGreatDoorP32
import Derived.Test.YtjkbpdobeljmjaaGreatDoorP35
import Derived.Test.YtjkbpdobeljmjaaGreatDoorP4
/- VerifyGrows: it answers true. Conditions: the tables lie. -/
namespace Go.Proofs.YtjkbpdobeljmjaaGreatDoor
set_option linter.unusedVariables false
set_option linter.unusedSimpArgs false
open Go.RowKit Bits Mem Sha
namespace Gr
open Stn (PartAt info32r)
open Ref (RdL OwL All32 treeS subS chkC checkC_any load_whole chkC_shows)
theorem modlen (n : Int) (m : Nat) (hm : 0 < m) (hb : m < 9223372036854775808) : ∃ j : Nat, j < m ∧ wrap64 ((IntKind.u64.wrap n).tmod (m : Int)) = (j : Int) := by
  have h1 : 0 ≤ IntKind.u64.wrap n := by rw [IntKind.wrap_u64]; omega
  have h2 : (IntKind.u64.wrap n).tmod (m : Int) = IntKind.u64.wrap n % (m : Int) := Int.tmod_eq_emod_of_nonneg h1
  have h3 : 0 ≤ IntKind.u64.wrap n % (m : Int) := Int.emod_nonneg _ (by omega)
  have h4 : IntKind.u64.wrap n % (m : Int) < (m : Int) := Int.emod_lt_of_pos _ (by omega)
  refine ⟨(IntKind.u64.wrap n % (m : Int)).toNat, by omega, ?_⟩
  rw [h2, IntWalk.wrap64_in _ (by omega)]
  omega
theorem xor8 (x : UInt8) (m : Nat) (h : m < 256) : ∃ y : UInt8, bits .xor .u8 (x.toNat : Int) (m : Int) = (y.toNat : Int) := by
  refine ⟨x ^^^ UInt8.ofNat m, ?_⟩
  have hm : m = (UInt8.ofNat m).toNat := by rw [UInt8.toNat_ofNat']; omega
  show IntKind.u8.wrap ((BitVec.ofInt 8 (x.toNat : Int) ^^^ BitVec.ofInt 8 (m : Int)).toNat : Int) = _
  rw [UInt8.toNat_xor]
  have h1 : (BitVec.ofInt 8 (x.toNat : Int)).toNat = x.toNat := by
    rw [BitVec.ofInt_natCast, BitVec.toNat_ofNat]; exact Nat.mod_eq_of_lt (by have := x.toNat_lt; omega)
  have h2 : (BitVec.ofInt 8 (m : Int)).toNat = (UInt8.ofNat m).toNat := by
    rw [BitVec.ofInt_natCast, BitVec.toNat_ofNat, ← hm]; exact Nat.mod_eq_of_lt (by omega)
  rw [BitVec.toNat_xor, h1, h2]
  have : x.toNat ^^^ (UInt8.ofNat m).toNat < 2 ^ 8 := Nat.xor_lt_two_pow (by have := x.toNat_lt; omega) (by have := (UInt8.ofNat m).toNat_lt; omega)
  rw [IntKind.wrap_u8']
  omega
theorem bysA_setG (l : List UInt8) (i : Nat) (x : UInt8) : (bysA l).setIfInBounds i (.int .u8 (x.toNat : Int)) = bysA (l.set i x) := by
  simp [bysA, bys, List.map_set]
def logD (k : Nat) : List (List UInt8) := (List.range (k + 1)).map entry
theorem logD_length (k : Nat) : (logD k).length = k + 1 := by simp [logD]
theorem logD_all (k : Nat) : All32 (logD k) := fun x hx => by
  obtain ⟨i, _, rfl⟩ := List.mem_map.1 hx
  exact Ref.leafS_length _
theorem logD_succ (k : Nat) : logD k ++ [entry (logD k).length] = logD (k + 1) := by
  rw [logD_length]
  unfold logD
  rw [List.range_succ (n := k + 1), List.map_append]
  rfl
set_option maxRecDepth 100000 in
set_option maxHeartbeats 8000000 in
theorem verifyGrows_any (seed : List UInt8) (hs : seed.length = 32) (ticks from_ : Int) (w : World) (hT : Tb w.heap.size w) :
    Calls Tryz.prog 3 #[.agg (bysA seed), .int .i64 ticks, .int .i64 from_] w fun e w' => e = .returned (.bool true) ∧ Below w.heap.size w w' := by
  obtain ⟨base, hbase⟩ : ∃ base, base = w.heap.size := ⟨_, rfl⟩
  rw [← hbase] at hT ⊢
  obtain ⟨w1, hw1⟩ : ∃ w1, w1 = w.alloc (.cells (bysA seed) 22) := ⟨_, rfl⟩
  have hb1 : Below base w w1 := by rw [hw1, hbase]; exact (Below.refl _ _).alloc (Nat.le_refl _) _
  have hr1 : w1.heap[base]? = some (.cells (bysA seed) 22 (0, 0)) := by rw [hw1, hbase]; exact heap_alloc_new w _
  have HLD := Lib.hid (load_whole hr1 hs)
  have HN := Lib.hid (hostNew_any seed hs 1 0 base (by decide) (by decide) (by decide) w1 (hT.below hb1))
  have HT := Lib.hid hT
  have HB1 := Lib.hid hb1
  have HW1 := Lib.hid hw1
  have HBA := Lib.hid hbase
  clear hw1 hb1 hr1 hT hs hbase
  go_enter Tryz.func3, Tryz.ntmps3
  go_upto_region 1 with fail
  rw [← HW1.out, ← HBA.out]
  go_wp2_with (refine l_loadP rfl _ _ rfl (.pointer (some ⟨base, 0, none⟩)) rfl (.agg (bysA seed)) HLD.out ?_)
  refine HN.out.mono ?_
  rintro e w2 ⟨hb, rfl, hh2, hb2⟩
  have HH2 := Lib.hid hh2
  have HB2 := Lib.hid (HB1.out.trans hb2)
  clear hh2 hb2 HN HLD
  go_wp2_with fail
  refine (verifies_any w2).mono ?_
  rintro e w3 ⟨rfl, hb3⟩
  have hb3' : Below base w2 w3 := hb3.mono (Nat.le_trans HT.out.le HB2.out.size)
  have HH3 := Lib.hid (HH2.out.below hb3)
  have HB3 := Lib.hid (HB2.out.trans hb3')
  have HT3 := Lib.hid (HT.out.below (HB2.out.trans hb3'))
  clear hb3 hb3' HH2 HB2
  go_wp2_with fail
  obtain ⟨n, hn, en⟩ := modlen ticks 8 (by decide) (by decide)
  have en : wrap64 ((IntKind.u64.wrap ticks).tmod 8) = (n : Int) := en
  rw [en]
  have hwl := HB3.out.size
  go_loopw [10] (fun iv wr => ∃ k : Nat, k ≤ n ∧ iv = .int .i64 k ∧ Hid (HostAt wr base hb 1 k seed (logD k)) ∧ Hid (Below base w wr)) (fun iv _ => n - (intOf iv).toNat)
  case atStart => exact ⟨0, Nat.zero_le _, rfl, HH3, HB3⟩
  case round =>
    obtain ⟨k, hk, rfl, HH, HB⟩ := hrel
    by_cases hlt : k < n
    · have hltI : (k : Int) < (n : Int) := by omega
      have HTI := Lib.hid (tickH_any hb base 1 k seed (logD k) wr (HT.out.below HB.out) HH.out (by rw [logD_length]; omega) (by omega) (by omega))
      go_wp2_with fail
      refine HTI.out.mono ?_
      rintro e w5 ⟨rfl, hh5, hb5⟩
      rw [logD_succ] at hh5
      have HH5 := Lib.hid hh5
      have HB5 := Lib.hid (HB.out.trans hb5)
      clear hh5 hb5
      go_wp2_with fail
      exact ⟨⟨k + 1, by omega, by go_num, Lib.hid (by have := HH5.out; rwa [show ((k + 1 : Nat) : Int) = (k : Int) + 1 by omega]), HB5⟩, by simp [intOf]; omega⟩
    · obtain rfl : k = n := by omega
      clear en HB3 HH3 HT3 hlt hk
      have hk7 : (k : Int) < 8 := by omega
      go_upto_region 11 with fail
      obtain ⟨f, hf, ef0⟩ := modlen from_ (k + 2) (by omega) (by omega)
      have ef : wrap64 ((IntKind.u64.wrap from_).tmod ((k : Int) + 1 + 1)) = (f : Int) := by rw [show (k : Int) + 1 + 1 = ((k + 2 : Nat) : Int) by omega]; exact ef0
      rw [ef]
      obtain ⟨t, ht⟩ : ∃ t : Nat, t = k + 1 := ⟨_, rfl⟩
      have htI : (k : Int) + 1 = (t : Int) := by omega
      rw [htI]
      obtain ⟨D, hD⟩ : ∃ D, D = logD k := ⟨_, rfl⟩
      have hDl : D.length = t := by rw [hD, logD_length, ht]
      have hft : f ≤ t := by omega
      have ht8 : t ≤ 8 := by omega
      rw [← hD] at HH
      obtain ⟨Z, hZ⟩ : ∃ Z, Z = Tryz.zeroCells50 := ⟨_, rfl⟩
      have HZ := Lib.hid hZ.symm
      have HZS : Hid (Z.size = 646) := Lib.hid (by rw [hZ]; decide +kernel)
      have HQ1 : Hid (Tryz.prog.built 57 [(0, .int .i64 12), (7, .int .i64 f), (8, .int .i64 t)] = some (reqA f t)) := Lib.hid (req_built f t)
      have HQ2 : Hid (Tryz.prog.built 57 [(0, .int .i64 12), (7, .int .i64 0), (8, .int .i64 f)] = some (reqA 0 f)) := Lib.hid (req_built 0 f)
      have HS1 := Lib.hid (Serve_any hb base 1 k seed D f t wr (HT.out.below HB.out) HH.out (by omega) hft (by omega))
      have htl : D.take t = D := by rw [List.take_of_length_le (by omega)]
      rw [htl] at HS1
      obtain ⟨P, hP⟩ : ∃ P, P = subS D f true := ⟨_, rfl⟩
      obtain ⟨R, hR⟩ : ∃ R, R = treeS D := ⟨_, rfl⟩
      rw [← hP, ← hR] at HS1
      obtain ⟨RB, hRB⟩ : ∃ RB, RB = treeS (D.take f) := ⟨_, rfl⟩
      obtain ⟨PB, hPB⟩ : ∃ PB, PB = subS (D.take f) 0 true := ⟨_, rfl⟩
      have HS2 : Hid (∀ x, Below wr.heap.size wr x → Calls Tryz.prog 7 #[.pointer (some ⟨hb, 0, none⟩), .agg (reqA 0 f)] x fun e w' => ∃ A q c, e = .returned (.agg A) ∧ GAns A q c PB.length RB ∧ Below x.heap.size x w') := Lib.hid (fun x hx => by
        rw [hPB, hRB]
        exact (Serve_any hb base 1 k seed D 0 f x (HT.out.below (HB.out.trans (hx.mono (by have := HT.out.le; have := HB.out.size; omega)))) (HH.out.below hx) (by omega) (by omega) (by omega)).mono (by rintro e w' ⟨A, q, c, h1, h2, _, h4⟩; exact ⟨A, q, c, h1, h2, h4⟩))
      have HDD := Lib.hid hD
      have HDL := Lib.hid hDl
      have HPE := Lib.hid hP
      have HRE := Lib.hid hR
      have HRBE := Lib.hid hRB
      clear hD hDl hZ hP hR hRB hPB ef ef0 htI ht htl hf
      go_upto_region 12 with (first | (refine l_buildT rfl 57 _ rfl (reqA f t) (by simp only [List.map_toArray, List.map_cons, List.map_nil]; exact HQ1.out) ?_))
      refine HS1.out.mono ?_
      rintro e w5 ⟨A, q, c, rfl, hga, hra, hb5⟩
      obtain ⟨w6, hw6⟩ : ∃ w6, w6 = w5.alloc (.cells A 50) := ⟨_, rfl⟩
      obtain ⟨b6, hb6⟩ : ∃ b6, b6 = w5.heap.size := ⟨_, rfl⟩
      have hbr6 : Below wr.heap.size wr w6 := by rw [hw6]; exact hb5.alloc hb5.size _
      have ha6 : w6.heap[b6]? = some (.cells A 50 (0, 0)) := by rw [hw6, hb6]; exact heap_alloc_new w5 _
      have hb56 : Below w5.heap.size w5 w6 := by rw [hw6]; exact (Below.refl _ _).alloc (Nat.le_refl _) _
      have HA6 := Lib.hid ha6
      have HR6 := Lib.hid (hra.below hb56)
      have HGA := Lib.hid hga
      have HIA := Lib.hid (infoAns hga.size)
      have HBR6 := Lib.hid hbr6
      have HW6 := Lib.hid hw6
      have HB6 := Lib.hid hb6
      clear hga hra hb5 hw6 hb6 hbr6 ha6 hb56 HS1
      go_upto_region 12 with (first | (refine Rg.store_row_new rfl 50 _ _ rfl w5.heap.size rfl rfl 50 _ A rfl HIA.out (by rw [HZ.out, HZS.out, HGA.out.size]) HGA.out.one ?_))
      rw [← HW6.out, ← HB6.out]
      go_upto_region 13 with (first | (refine l_buildT rfl 57 _ rfl (reqA 0 f) (by simp only [List.map_toArray, List.map_cons, List.map_nil]; exact HQ2.out) ?_))
      refine (HS2.out w6 HBR6.out).mono ?_
      rintro e w7 ⟨A', q', c', rfl, hga, hb7⟩
      obtain ⟨w8, hw8⟩ : ∃ w8, w8 = w7.alloc (.cells A' 50) := ⟨_, rfl⟩
      obtain ⟨b8, hb8⟩ : ∃ b8, b8 = w7.heap.size := ⟨_, rfl⟩
      have hb68 : Below w6.heap.size w6 w8 := by rw [hw8]; exact hb7.alloc hb7.size _
      have ha8 : w8.heap[b8]? = some (.cells A' 50 (0, 0)) := by rw [hw8, hb8]; exact heap_alloc_new w7 _
      have hRBl : RB.length = 32 := by rw [HRBE.out]; exact Ref.treeS_length _ (by rw [HDD.out]; exact (logD_all k).take f)
      have HGB := Lib.hid hga
      have HA8 := Lib.hid ha8
      have HA86 := Lib.hid (Rp.row_le hb68 HA6.out)
      have HR8 := Lib.hid (HR6.out.below hb68)
      have HIB := Lib.hid (infoAns hga.size)
      have HBR8 := Lib.hid (HBR6.out.trans (hb68.mono HBR6.out.size))
      have HLB := Lib.hid (hga.log.load ha8 Tryz.underlying22 rfl (info32r RB hRBl))
      have HRBL := Lib.hid hRBl
      have HIR := Lib.hid (info32r RB hRBl)
      have HW8 := Lib.hid hw8
      have HB8 := Lib.hid hb8
      clear hga hb7 hw8 hb8 hb68 ha8 hRBl HS2
      go_upto_region 13 with (first | (refine Rg.store_row_new rfl 50 _ _ rfl w7.heap.size rfl rfl 50 _ A' rfl HIB.out (by rw [HZ.out, HZS.out, HGB.out.size]) HGB.out.one ?_))
      rw [← HW8.out, ← HB8.out]
      obtain ⟨w9, hw9⟩ : ∃ w9, w9 = w8.alloc (.cells (bysA RB) 22) := ⟨_, rfl⟩
      obtain ⟨b9, hb9⟩ : ∃ b9, b9 = w8.heap.size := ⟨_, rfl⟩
      have hb89 : Below w8.heap.size w8 w9 := by rw [hw9]; exact (Below.refl _ _).alloc (Nat.le_refl _) _
      have hr9 : w9.heap[b9]? = some (.cells (bysA RB) 22 (0, 0)) := by rw [hw9, hb9]; exact heap_alloc_new w8 _
      obtain ⟨r0, hr0⟩ : ∃ r0, r0 = RB.getD 0 0 := ⟨_, rfl⟩
      have hbt : (bysA RB)[0]? = some (.int .u8 (r0.toNat : Int)) := by
        have := bys_get RB 0 (by rw [HRBL.out]; decide)
        rw [hr0]
        simpa [bysA] using this
      have g0 : w9.cell? ⟨b9, 0, none⟩ = some (.int .u8 (r0.toNat : Int)) := (cell_of_row _ _ _ _ _ _ hr9).trans hbt
      have fr0 : w9.frozen? ⟨b9, 0, none⟩ = false := frozen_of_row _ _ _ _ _ hr9
      have HR9 := Lib.hid hr9
      have HW9 := Lib.hid hw9
      have HB9 := Lib.hid hb9
      have HA9 := Lib.hid (Rp.row_le hb89 HA86.out)
      have HA98 := Lib.hid (Rp.row_le hb89 HA8.out)
      have HRD9 := Lib.hid (HR8.out.below hb89)
      have HBR9 := Lib.hid (HBR8.out.trans (hb89.mono HBR8.out.size))
      obtain ⟨y, hy⟩ := xor8 r0 1 (by omega)
      have hy : bits .xor .u8 (r0.toNat : Int) 1 = (y.toNat : Int) := hy
      have HY := Lib.hid hy
      obtain ⟨bad, hbad⟩ : ∃ bad, bad = RB.set 0 y := ⟨_, rfl⟩
      have hbl : bad.length = 32 := by rw [hbad, List.length_set]; exact HRBL.out
      obtain ⟨w10, hw10⟩ : ∃ w10, w10 = w9.setCell ⟨b9, 0, none⟩ (.int .u8 (y.toNat : Int)) := ⟨_, rfl⟩
      have hk910 : Kp (fun k => k = b9) w9 w10 := by rw [hw10]; exact Kp.setCell _ _ _ _
      have hrb : w10.heap[b9]? = some (.cells (bysA bad) 22 (0, 0)) := by rw [hw10, heap_setCell_same _ _ _ _ _ _ hr9, bysA_setG, hbad]
      have h68 : b6 < b9 := by rw [hb9]; exact lt_of_heap HA86.out
      have h88 : b8 < b9 := by rw [hb9]; exact lt_of_heap HA8.out
      have ha10 : w10.heap[b6]? = some (.cells A 50 (0, 0)) := (hk910.block _ (lt_of_heap (Rp.row_le hb89 HA86.out)) (by omega)).trans (Rp.row_le hb89 HA86.out)
      have hb10 : w10.heap[b8]? = some (.cells A' 50 (0, 0)) := (hk910.block _ (lt_of_heap (Rp.row_le hb89 HA8.out)) (by omega)).trans (Rp.row_le hb89 HA8.out)
      have hrd10 : RdL w10 (.slice q P.length c) P := ⟨HR8.out.1, HR8.out.2.kpq fun j hj => by
        have hlt := HR8.out.2.ltB j hj
        exact (hk910.block j (Nat.lt_of_lt_of_le hlt hb89.size) (by omega)).trans (hb89.block j hlt)⟩
      have hB10 : Below base w w10 := (HB.out.trans ((HBR8.out.trans (hb89.mono HBR8.out.size)).mono (by have := HT.out.le; have := HB.out.size; omega))).trans (hk910.below (by have := HT.out.le; have := HB.out.size; have := HBR8.out.size; have := hb89.size; omega) (fun j e => by have e : j = b9 := e; have := HT.out.le; have := HB.out.size; have := HBR8.out.size; omega))
      have hS10 := (HT.out.below hB10).sha
      have hDt : D.take t = D := by rw [List.take_of_length_le (by rw [HDL.out]; exact Nat.le_refl _)]
      have hRl : R.length = 32 := by rw [HRE.out]; exact Ref.treeS_length _ (by rw [HDD.out]; exact logD_all k)
      have hPl : P.length ≤ 1000 := by
        have := Ref.subS_len t D f true HDL.out
        rw [HPE.out]
        omega
      have hck : chkC f t P RB R = 0 := by
        have := chkC_shows D f t (by rw [HDL.out]; exact Nat.le_refl _) hft
        rw [hDt] at this
        rw [HPE.out, HRBE.out, HRE.out]
        exact this
      obtain ⟨E, hE⟩ : ∃ E, E = chkC f t P bad R := ⟨_, rfl⟩
      have HG1 : Hid (∀ x, Below w10.heap.size w10 x → Calls Tryz.prog 8 #[.int .i64 f, .int .i64 t, .agg (bysA RB), .agg A] x fun e w' => e = .returned (.int .i64 0) ∧ Below x.heap.size x w') := Lib.hid (fun x hx => by
        have := grow_any f t RB R A q c P x (hS10.below hx) HGA.out (hrd10.below hx) hPl HRBL.out hRl (by omega)
        rwa [hck] at this)
      have HG2 : Hid (∀ x, Below w10.heap.size w10 x → Calls Tryz.prog 8 #[.int .i64 f, .int .i64 t, .agg (bysA bad), .agg A] x fun e w' => e = .returned (.int .i64 E) ∧ Below x.heap.size x w') := Lib.hid (fun x hx => by
        rw [hE]
        exact grow_any f t bad R A q c P x (hS10.below hx) HGA.out (hrd10.below hx) hPl hbl hRl (by omega))
      have HG3 : Hid (∀ x, Below w10.heap.size w10 x → Calls Tryz.prog 9 #[.int .i64 f, .int .i64 t, .slice q P.length c, .agg (bysA bad), .agg (bysA R)] x fun e w' => e = .returned (.int .i64 E) ∧ Below x.heap.size x w') := Lib.hid (fun x hx => by
        rw [hE]
        exact checkC_any f t q c P bad R x (hS10.below hx) (hrd10.below hx) hPl hbl hRl (by omega))
      have HA10 := Lib.hid ha10
      have HB10 := Lib.hid hb10
      have HRB10 := Lib.hid hrb
      have HBB := Lib.hid hB10
      have HBL := Lib.hid hbl
      have HRL := Lib.hid hRl
      have HW10 := Lib.hid hw10
      have e61 : w10.cell? ⟨b6, 1, none⟩ = some (.int .i64 0) := (cell_of_row _ _ _ _ _ _ ha10).trans HGA.out.err
      have e81 : w10.cell? ⟨b8, 1, none⟩ = some (.int .i64 0) := (cell_of_row _ _ _ _ _ _ hb10).trans HGB.out.err
      have e645 : w10.cell? ⟨b6, 645, none⟩ = some (.slice q P.length c) := (cell_of_row _ _ _ _ _ _ ha10).trans HGA.out.sums
      have h6l := lt_of_heap ha10
      have h8l := lt_of_heap hb10
      have hz : (wr.heap.size : Nat) ≤ w10.heap.size := by have := hk910.size; have := hb89.size; have := HBR8.out.size; omega
      clear hw9 hb9 hb89 hr9 hr0 hbt hy hbad hbl hw10 hk910 hrb ha10 hb10 hrd10 hB10 hS10 hDt hRl hPl hck hE h68 h88
      go_upto_region 14 with (first | (refine l_loadP rfl _ _ rfl (.pointer (some ⟨b8, 613, none⟩)) rfl (.agg (bysA RB)) HLB.out ?_) | (rw [z32S]; refine Rg.store_row_new rfl 22 _ _ rfl w8.heap.size rfl rfl 22 (bysA zeros32) (bysA RB) rfl HIR.out (by rw [bysA_size, bysA_size, HRBL.out]; rfl) (bysA_one _) ?_))
      rw [← HW9.out, ← HB9.out]
      go_upto_region 15 with fail
      rw [HY.out, ← HW10.out]
      clear g0 fr0
      refine Rc.region (w10.heap.size) 34 [Rc.F 14 (fun _ => .int .i64 0) (fun _ _ _ => True), Rc.F 22 (fun _ => .int .i64 E) (fun _ _ _ => True), Rc.F 30 (fun _ => .int .i64 E) (fun _ _ _ => True)] [] (by kernel_rfl) (Nat.le_refl _) (by kernel_rfl) ?_; intro p; simp only [List.take, List.drop]
      iterate 12 (refine Rc.rK rfl rfl ?_; intro K hK; apply Exists.intro; refine ⟨?_, ?_⟩; (focus (intro x hx; have f1 := Rc.cell_le hx h6l e61; have f2 := Rc.cell_le hx h8l e81; go_simp; (first | (fail) | ((try go_bits); (try go_simp); (try rfl))))); go_simp; refine hK _ ?_; clear hK K)
      refine Rc.r_load rfl rfl _ _ rfl (.agg (bysA RB)) (fun x hx => HGB.out.log.load (Rp.row_le (Rc.undrew hx) HB10.out) Tryz.underlying22 rfl HIR.out) ?_; intro K hK; go_simp; refine hK _ ?_; clear hK K
      refine Rc.r_load rfl rfl _ _ rfl (.agg A) (fun x hx => (PartAt.self A).load (Rp.row_le (Rc.undrew hx) HA10.out) Tryz.underlying50 rfl HIA.out) ?_; intro K hK; go_simp; refine hK _ ?_; clear hK K
      refine Rc.fK rfl rfl rfl rfl ?_ ?_
      · intro x Fs hx hle hg K hK
        go_wp2_with fail
        refine (HG1.out x (Rc.undrew hx)).mono ?_
        rintro e x' ⟨rfl, hb⟩
        go_wp2_with fail
        exact hK Rc.dflt x' hb (fun _ _ _ _ => trivial)
      intro K hK; go_simp; refine hK _ ?_; clear hK K
      iterate 5 (refine Rc.rK rfl rfl ?_; intro K hK; apply Exists.intro; refine ⟨?_, ?_⟩; (focus (intro x hx;  go_simp; (first | (fail) | ((try go_bits); (try go_simp); (try rfl))))); go_simp; refine hK _ ?_; clear hK K)
      refine Rc.r_load rfl rfl _ _ rfl (.agg (bysA bad)) (fun x hx => load_whole (Rp.row_le (Rc.undrew hx) HRB10.out) HBL.out) ?_; intro K hK; go_simp; refine hK _ ?_; clear hK K
      refine Rc.r_load rfl rfl _ _ rfl (.agg A) (fun x hx => (PartAt.self A).load (Rp.row_le (Rc.undrew hx) HA10.out) Tryz.underlying50 rfl HIA.out) ?_; intro K hK; go_simp; refine hK _ ?_; clear hK K
      refine Rc.fK rfl rfl rfl rfl ?_ ?_
      · intro x Fs hx hle hg K hK
        go_wp2_with fail
        refine (HG2.out x (Rc.undrew hx)).mono ?_
        rintro e x' ⟨rfl, hb⟩
        go_wp2_with fail
        exact hK Rc.dflt x' hb (fun _ _ _ _ => trivial)
      intro K hK; go_simp; refine hK _ ?_; clear hK K
      iterate 4 (refine Rc.rK rfl rfl ?_; intro K hK; apply Exists.intro; refine ⟨?_, ?_⟩; (focus (intro x hx; have f1 := Rc.cell_le hx h6l e645; go_simp; (first | (fail) | ((try go_bits); (try go_simp); (try rfl))))); go_simp; refine hK _ ?_; clear hK K)
      refine Rc.r_load rfl rfl _ _ rfl (.agg (bysA bad)) (fun x hx => load_whole (Rp.row_le (Rc.undrew hx) HRB10.out) HBL.out) ?_; intro K hK; go_simp; refine hK _ ?_; clear hK K
      iterate 1 (refine Rc.rK rfl rfl ?_; intro K hK; apply Exists.intro; refine ⟨?_, ?_⟩; (focus (intro x hx;  go_simp; (first | (fail) | ((try go_bits); (try go_simp); (try rfl))))); go_simp; refine hK _ ?_; clear hK K)
      refine Rc.r_load rfl rfl _ _ rfl (.agg (bysA R)) (fun x hx => HGA.out.log.load (Rp.row_le (Rc.undrew hx) HA10.out) Tryz.underlying22 rfl (info32r R HRL.out)) ?_; intro K hK; go_simp; refine hK _ ?_; clear hK K
      refine Rc.fK rfl rfl rfl rfl ?_ ?_
      · intro x Fs hx hle hg K hK
        go_wp2_with fail
        refine (HG3.out x (Rc.undrew hx)).mono ?_
        rintro e x' ⟨rfl, hb⟩
        go_wp2_with fail
        exact hK Rc.dflt x' hb (fun _ _ _ _ => trivial)
      intro K hK; go_simp; refine hK _ ?_; clear hK K
      iterate 3 (refine Rc.rK rfl rfl ?_; intro K hK; apply Exists.intro; refine ⟨?_, ?_⟩; (focus (intro x hx;  go_simp; (first | (fail) | ((try go_bits); (try go_simp); (try rfl))))); go_simp; refine hK _ ?_; clear hK K)
      refine Rc.done fun x Fs hx hle hg => ?_
      have HBX : Hid (Below base w x) := Lib.hid (HBB.out.trans ((Rc.undrew hx).mono (by have := HT.out.le; have := HB.out.size; omega)))
      clear hx hle hg
      go_wp2_with fail
      refine NoPanic.normal ?_
      go_wp2_with fail
      go_ret
      exact ⟨rfl, HBX.out⟩
end Gr
end Go.Proofs.YtjkbpdobeljmjaaGreatDoor

/- The tables of the program, for VerifyGrows. -/
namespace Go.Proofs.YtjkbpdobeljmjaaGreatDoor
open Go.ChangeShapes Go.WideShapes Go.ChangeAt Go.RowKit Mem Sha
namespace Wrap
def zsOf : DataW Unit → List Int
  | .agg l => l.map fun x => match x with | .lit (.int _ n) => n | _ => 0
  | _ => []
set_option maxRecDepth 100000 in
theorem wt_of {W : World} (h : ∀ x ∈ Ab.gtL.l, ∃ C t f, W.heap[x.1]? = some (.cells C t f) ∧ Ab.ksB C.toList x.2 = true) (hm : ∃ t f, W.heap[(8 : Nat)]? = some (.cells Ab.mod4 t f)) : Ab.WT Ab.gtL Ab.tabS W := by
  refine ⟨fun g l hg => by unfold Ab.tabS; rw [Ab.tabS_mem (g, l) hg]; rfl, fun g C hg => ?_, fun b m l hb => ?_⟩
  · simp only [Ab.gtL, List.mem_singleton, Prod.mk.injEq] at hg
    obtain ⟨rfl, rfl⟩ := hg
    exact ⟨⟨Ab.w4, by unfold Ab.tabS; rw [Ab.tabS_mem (8, Ab.w4) (by simp [Ab.gtL])]; rfl⟩, hm⟩
  · unfold Ab.tabS at hb
    obtain ⟨l', h1, h2⟩ := Option.map_eq_some_iff.1 hb
    cases h2
    obtain ⟨C, t, f, h3, h4⟩ := h _ (Ab.gOf_mem h1)
    exact ⟨C, t, f, h3, (fun h => nomatch h), (Ab.ksB_ok h4).mono (fun b x hb => by simp [Ab.nil0] at hb)⟩
set_option maxRecDepth 100000 in
theorem std_tabs {W : World} {laid : List (String × DataW Unit)} (h : laidMet Tryz.prog laid W) (h1 : ("custumal/field.modulus", Rows.laid_custumal_field_modulus) ∈ laid) (h2 : ("custumal/field.imaginary", Rows.laid_custumal_field_imaginary) ∈ laid) (h3 : ("custumal/scalar.order", Rows.laid_custumal_scalar_order) ∈ laid) (h4 : ("custumal/edwards.baseX", Rows.laid_custumal_edwards_baseX) ∈ laid) (h5 : ("custumal/edwards.baseY", Rows.laid_custumal_edwards_baseY) ∈ laid) (h6 : ("custumal/edwards.double", Rows.laid_custumal_edwards_double) ∈ laid) (h7 : ("custumal/edwards.curve", Rows.laid_custumal_edwards_curve) ∈ laid) (h8 : ("custumal/sha5.start", Rows.laid_custumal_sha5_start) ∈ laid) (h9 : ("custumal/sha5.rounds", Rows.laid_custumal_sha5_rounds) ∈ laid) : Ab.WT Ab.gtL Ab.tabS W := by
  obtain ⟨t1, f1, r1⟩ := tab_row (k := .u64) (zs := zsOf Rows.laid_custumal_field_modulus) (g := 8) (t := 170) (e := 28) (n := 4) (by kernel_rfl) (by kernel_rfl) (by kernel_rfl) (by kernel_rfl) (by kernel_rfl) (by kernel_rfl) h (by exact h1)
  obtain ⟨t2, f2, r2⟩ := tab_row (k := .u64) (zs := zsOf Rows.laid_custumal_field_imaginary) (g := 11) (t := 170) (e := 28) (n := 4) (by kernel_rfl) (by kernel_rfl) (by kernel_rfl) (by kernel_rfl) (by kernel_rfl) (by kernel_rfl) h (by exact h2)
  obtain ⟨t3, f3, r3⟩ := tab_row (k := .u64) (zs := zsOf Rows.laid_custumal_scalar_order) (g := 2) (t := 168) (e := 28) (n := 4) (by kernel_rfl) (by kernel_rfl) (by kernel_rfl) (by kernel_rfl) (by kernel_rfl) (by kernel_rfl) h (by exact h3)
  obtain ⟨t4, f4, r4⟩ := tab_row (k := .u64) (zs := zsOf Rows.laid_custumal_edwards_baseX) (g := 0) (t := 170) (e := 28) (n := 4) (by kernel_rfl) (by kernel_rfl) (by kernel_rfl) (by kernel_rfl) (by kernel_rfl) (by kernel_rfl) h (by exact h4)
  obtain ⟨t5, f5, r5⟩ := tab_row (k := .u64) (zs := zsOf Rows.laid_custumal_edwards_baseY) (g := 1) (t := 170) (e := 28) (n := 4) (by kernel_rfl) (by kernel_rfl) (by kernel_rfl) (by kernel_rfl) (by kernel_rfl) (by kernel_rfl) h (by exact h5)
  obtain ⟨t6, f6, r6⟩ := tab_row (k := .u64) (zs := zsOf Rows.laid_custumal_edwards_double) (g := 5) (t := 170) (e := 28) (n := 4) (by kernel_rfl) (by kernel_rfl) (by kernel_rfl) (by kernel_rfl) (by kernel_rfl) (by kernel_rfl) h (by exact h6)
  obtain ⟨t7, f7, r7⟩ := tab_row (k := .u64) (zs := zsOf Rows.laid_custumal_edwards_curve) (g := 9) (t := 170) (e := 28) (n := 4) (by kernel_rfl) (by kernel_rfl) (by kernel_rfl) (by kernel_rfl) (by kernel_rfl) (by kernel_rfl) h (by exact h7)
  obtain ⟨t8, f8, r8⟩ := tab_row (k := .u64) (zs := zsOf Rows.laid_custumal_sha5_start) (g := 4) (t := 251) (e := 28) (n := 8) (by kernel_rfl) (by kernel_rfl) (by kernel_rfl) (by kernel_rfl) (by kernel_rfl) (by kernel_rfl) h (by exact h8)
  obtain ⟨t9, f9, r9⟩ := tab_row (k := .u64) (zs := zsOf Rows.laid_custumal_sha5_rounds) (g := 7) (t := 362) (e := 28) (n := 80) (by kernel_rfl) (by kernel_rfl) (by kernel_rfl) (by kernel_rfl) (by kernel_rfl) (by kernel_rfl) h (by exact h9)
  refine wt_of (fun x hx => ?_) ⟨t1, f1, r1⟩
  simp only [Ab.gtL, List.mem_cons, List.not_mem_nil, or_false] at hx
  rcases hx with rfl | rfl | rfl | rfl | rfl | rfl | rfl | rfl | rfl
  · exact ⟨_, t1, f1, r1, by kernel_rfl⟩
  · exact ⟨_, t2, f2, r2, by kernel_rfl⟩
  · exact ⟨_, t3, f3, r3, by kernel_rfl⟩
  · exact ⟨_, t4, f4, r4, by kernel_rfl⟩
  · exact ⟨_, t5, f5, r5, by kernel_rfl⟩
  · exact ⟨_, t6, f6, r6, by kernel_rfl⟩
  · exact ⟨_, t7, f7, r7, by kernel_rfl⟩
  · exact ⟨_, t8, f8, r8, by kernel_rfl⟩
  · exact ⟨_, t9, f9, r9, by kernel_rfl⟩
theorem tb_of {W : World} (hS : Sha.Tabs W) (hT : Ab.WT Ab.gtL Ab.tabS W) : Gr.Tb W.heap.size W := by
  refine ⟨hS, hT, ⟨?_, ?_⟩, fun x hx => hT.lt (hT.tab x.1 x.2 hx), Nat.le_refl _⟩
  · obtain ⟨t, f, h⟩ := hS.start
    exact (Array.getElem?_eq_some_iff.1 h).1
  · obtain ⟨t, f, h⟩ := hS.rounds
    exact (Array.getElem?_eq_some_iff.1 h).1
end Wrap
end Go.Proofs.YtjkbpdobeljmjaaGreatDoor


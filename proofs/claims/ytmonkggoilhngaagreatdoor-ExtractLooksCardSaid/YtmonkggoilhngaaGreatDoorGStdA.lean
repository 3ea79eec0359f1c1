/- How a member stands: its text, exactly. Conditions: none beyond the bounds of bytes. -/
import Derived.Test.YtmonkggoilhngaaGreatDoorGFindE
import Derived.Test.YtmonkggoilhngaaGreatDoorGStandQ
import Derived.Test.YtmonkggoilhngaaGreatDoorGFew
import Derived.Test.YtmonkggoilhngaaGreatDoorGConcW
import Derived.Test.YtmonkggoilhngaaGreatDoorConE
import Derived.Test.YtmonkggoilhngaaGreatDoorGL32P
import Derived.Deep.CutBlock
namespace Go.Proofs.YtmonkggoilhngaaGreatDoor
open Go.RowKit Bits Mem Sha
namespace Stn
theorem u64_wrap (n : Int) : IntKind.u64.wrap n = (Num8.u64 n : Int) := by rw [IntKind.wrap_u64]; unfold Num8.u64; omega
theorem byte8_at (u j : Nat) (hj : j < 8) : (u : Int) / 2 ^ (56 - 8 * j) % 256 = ((UInt8.ofNat (u / 2 ^ (8 * (7 - j)))).toNat : Int) := by
  rw [UInt8.toNat_ofNat', show 8 * (7 - j) = 56 - 8 * j from by omega]; simp
theorem info8b : (Tryz.prog.info? 5).map (fun i => (i.zero, i.size, i.bytes)) = some (some (.int .u8 0), 1, 1) := by kernel_rfl
set_option maxRecDepth 100000 in
set_option maxHeartbeats 1000000 in
theorem number8_any (n : Int) (w : World) :
    Calls Tryz.prog 73 #[.int .i64 n] w fun e w' => ∃ q c, e = .returned (.slice q 8 c) ∧ Ow w' w.heap.size 5 1 (.slice q 8 c) 8 (bys (Num8.eight n)) ∧ Below w.heap.size w w' := by
  have hwu := u64_wrap n
  obtain ⟨u, hu⟩ : ∃ u, u = Num8.u64 n := ⟨_, rfl⟩
  rw [← hu] at hwu
  have HU := Lib.hid hu
  clear hu
  obtain ⟨i0, hi, hz0, hz1, hz2⟩ := parts3M info8b
  go_enter Tryz.func73, Tryz.ntmps73
  go_wp2_with fail
  go_loopw [3, 4] (fun v i wr => ∃ (j : Nat) (q : Option Addr) (c : Nat), j ≤ 8 ∧ i = .int .i64 (7 - (j : Int)) ∧ v = .slice q j c ∧ Ow wr w.heap.size 5 1 (.slice q j c) j (bys (be u j)) ∧ Below w.heap.size w wr) (fun _ i _ => (intOf i + 1).toNat)
  case atStart => exact ⟨0, none, 0, by omega, rfl, rfl, Ow.nil _ _ _ _, Below.refl _ _⟩
  case round =>
    obtain ⟨j, qj, cj, hj, rfl, rfl, hown, hb⟩ := hrel
    have hszw := hb.size
    by_cases hlt : j < 8
    · have hge : (0 : Int) ≤ 7 - (j : Int) := by omega
      have hx := byte8_at u j hlt
      have HSUC := Lib.hid (be_succ u j)
      obtain ⟨x, hxe⟩ : ∃ x, x = UInt8.ofNat (u / 2 ^ (8 * (7 - j))) := ⟨_, rfl⟩
      rw [← hxe] at hx HSUC
      rw [show 56 - 8 * j = 8 * (7 - j) by omega] at hx
      have h7 : (0 : Int) ≤ 8 * (7 - (j : Int)) := by omega
      have ht : (8 * (7 - (j : Int))).toNat = 8 * (7 - j) := by omega
      have HR1 : Hid (∀ w1 : World, Rd (w1.alloc (.cells #[.int .u8 (x.toNat : Int)] 5)) 1 (.slice (some ⟨w1.heap.size, 0, none⟩) 1 1) 1 (bys [x])) := Lib.hid (fun w1 => Rd_lit w1 #[.int .u8 (x.toNat : Int)] 5 1 1 rfl (by decide))
      clear hxe
      go_wp2_with (at_builtin; have ho := hown.alloc (.cells #[.int .u8 (x.toNat : Int)] 5); go_must (refine app_ow3 rfl _ _ 23 23 rfl w.heap.size 5 i0 (.int .u8 0) 1 1 Tryz.underlying23 hi hz0 hz1 hz2 rfl _ j _ rfl ho 1 _ rfl (Rd.src Tryz.underlying23 (HR1.out _) (bys_one [x])) (by unfold maxLen; omega) (by omega) (by rw [World.size_alloc]; omega) ?_); go_must (intro v3 w3 how3 hg3 hn3); go_must (obtain ⟨q3, c3, rfl⟩ := Ow_form how3); go_must (have hb3 : Below w.heap.size w w3 := (hb.alloc hszw _).grown hg3 (by rw [World.size_alloc]; omega) (fun k hk => (ho.lt k hk).1)); clear hown ho hg3 hn3)
      have HO3 := Lib.hid how3; clear how3
      refine ⟨⟨j + 1, q3, c3, by omega, by congr 1; omega, rfl, ?_, hb3⟩, ?_⟩
      · rw [HSUC.out, bys_append]; exact HO3.out
      · simp [intOf]; omega
    · obtain rfl : j = 8 := by omega
      rw [show (7 - ((8 : Nat) : Int)) = -1 from rfl]
      have HO3 := Lib.hid hown
      clear hown
      go_wp2_with fail
      go_ret
      exact ⟨qj, cj, rfl, by unfold Num8.eight; rw [← HU.out]; exact HO3.out, hb⟩
set_option maxRecDepth 100000 in
set_option maxHeartbeats 1000000 in
theorem inkey_any (i : Nat) (hi : i < 256) (w : World) : Calls Tryz.prog 86 #[.int .i64 (i : Int)] w fun e w' => e = .returned (.bool true) ∧ w' = w := by
  have h2 : decide ((i : Int) < 256) = true := by simp; omega
  go_enter Tryz.func86, Tryz.ntmps86
  go_wp2_with fail
  go_ret
  exact ⟨rfl, rfl⟩
def bit (k : List UInt8) (i : Nat) : Bool := (bt k (i / 8)).toNat / 2 ^ (7 - i % 8) % 2 == 1
theorem bit_val (x : UInt8) (m : Nat) (b : Bool) (hb : b = ((x.toNat / 2 ^ m % 2) == 1)) : bits .and .i64 ((x.toNat : Int) / (2 : Int) ^ m) 1 = if b then 1 else 0 := by
  have hx := x.toNat_lt
  have e : (x.toNat : Int) / (2 : Int) ^ m = ((x.toNat / 2 ^ m : Nat) : Int) := by simp
  have h1 := Nat.div_le_self x.toNat (2 ^ m)
  have h2 := Ref.i64_and (x.toNat / 2 ^ m) 1 (by omega) (by omega)
  rw [e, show (1 : Int) = ((1 : Nat) : Int) from rfl, h2, Nat.and_one_is_mod, hb]
  rcases Nat.mod_two_eq_zero_or_one (x.toNat / 2 ^ m) with h | h <;> simp [h]
set_option maxRecDepth 100000 in
set_option maxHeartbeats 1000000 in
theorem bit_any (k : List UInt8) (hk : k.length = 32) (i : Nat) (hi : i < 256) (w : World) :
    Calls Tryz.prog 60 #[.agg (bysA k), .int .i64 (i : Int)] w fun e w' => e = .returned (.int .i64 (if bit k i then 1 else 0)) ∧ Below w.heap.size w w' := by
  have hc : (w.alloc (.cells (bysA k) 28)).cell? ⟨w.heap.size, i / 8, none⟩ = some (.int .u8 ((bt k (i / 8)).toNat : Int)) := by
    refine (cell_of_row _ _ _ _ _ _ (heap_alloc_new w _)).trans ?_
    unfold bysA bt
    simp [bys, List.getD, show i / 8 < k.length by omega]
  have q1 : (0 : Int) ≤ (i : Int) / 8 := by omega
  have q2 : (i : Int) / 8 < 32 := by omega
  have q3 : ((i : Int) / 8).toNat = i / 8 := by omega
  have q4 : (0 : Int) ≤ 7 - (i : Int) % 8 := by omega
  have q5 : (7 - (i : Int) % 8).toNat = 7 - i % 8 := by omega
  have hv := bit_val (bt k (i / 8)) (7 - i % 8) (bit k i) rfl
  obtain ⟨x, hx⟩ : ∃ x, x = bt k (i / 8) := ⟨_, rfl⟩
  obtain ⟨z, hz⟩ : ∃ z : Int, z = if bit k i then 1 else 0 := ⟨_, rfl⟩
  rw [← hx] at hc hv
  rw [← hz] at hv ⊢
  have hw : wrap64 ((x.toNat : Int) / (2 : Int) ^ (7 - i % 8)) = (x.toNat : Int) / (2 : Int) ^ (7 - i % 8) := by
    have hx8 := x.toNat_lt
    have h1 := Nat.div_le_self x.toNat (2 ^ (7 - i % 8))
    have e : (x.toNat : Int) / (2 : Int) ^ (7 - i % 8) = ((x.toNat / 2 ^ (7 - i % 8) : Nat) : Int) := by simp
    rw [e]
    obtain ⟨y, hy⟩ : ∃ y, y = x.toNat / 2 ^ (7 - i % 8) := ⟨_, rfl⟩
    rw [← hy] at h1 ⊢
    unfold wrap64
    omega
  have HV := Lib.hid hv
  have HW := Lib.hid hw
  clear hk hx hz hv hw
  go_enter Tryz.func60, Tryz.ntmps60
  go_wp2_with (go_at_call 86; refine (inkey_any i hi _).mono ?_; rintro e w' ⟨rfl, rfl⟩)
  rw [HW.out, HV.out]
  go_ret
  exact ⟨rfl, (Below.refl _ _).alloc (Nat.le_refl _) _⟩
def PartAt (C : Array Value) (off : Nat) (D : Array Value) : Prop := ∀ (j : Nat) (v : Value), D[j]? = some v → C[off + j]? = some v
theorem PartAt.trans {A B C : Array Value} {o o' : Nat} (h : PartAt A o B) (h' : PartAt B o' C) : PartAt A (o + o') C := fun j v hv => by rw [Nat.add_assoc]; exact h _ _ (h' j v hv)
theorem PartAt.self (C : Array Value) : PartAt C 0 C := fun j v hv => by rw [Nat.zero_add]; exact hv
theorem PartAt.cell {w : World} {g o j : Nat} {C D : Array Value} {t : TypeId} {f : Nat × Nat} {v : Value} (hp : PartAt C o D) (h : w.heap[g]? = some (.cells C t f)) (hv : D[j]? = some v) : w.cell? ⟨g, o + j, none⟩ = some v := (cell_of_row w g _ _ _ _ h).trans (hp j v hv)
theorem PartAt.rd {w : World} {g o n : Nat} {C : Array Value} {t : TypeId} {f : Nat × Nat} {l : List UInt8} (hp : PartAt C o (bysA l)) (h : w.heap[g]? = some (.cells C t f)) (hn : l.length = n) (hm : n ≤ maxLen) : Rd w 1 (.slice (some ⟨g, o, none⟩) n n) n (bys l) := by
  subst hn
  refine ⟨by rw [bys_length]; omega, .inr ⟨g, o, l.length, rfl, lt_of_heap h, Nat.le_refl _, hm, fun j u hu => ?_⟩⟩
  exact hp.cell h (by simpa [bysA] using hu)
theorem PartAt.load {w : World} {g o : Nat} {t : TypeId} {C D : Array Value} {fz : Nat × Nat} {T : TypeId} {d : TypeDesc} (hp : PartAt C o D) (h : w.heap[g]? = some (.cells C t fz)) (hu : Tryz.prog.underlying T = some d) (ha : d.isRow = true) (hi : (Tryz.prog.info? T).map (·.size) = some D.size) : (Instr.loadAt T (.pointer (some ⟨g, o, none⟩))).run Tryz.prog w = .ok (.agg D) w := Fnd.load_part h hp hu ha hi
set_option maxRecDepth 100000 in
set_option maxHeartbeats 1000000 in
theorem end_there (C : Array Value) (key val : List UInt8) (h1 : C[1]? = some (.bool true)) (hkp : PartAt C 2 (bysA key)) (hvp : PartAt C 34 (bysA val)) (hk : key.length = 32) (hv : val.length = 32) (w : World) :
    Calls Tryz.prog 58 #[.agg C] w fun e w' => ∃ q c, e = .returned (.slice q (endT true key val).length c) ∧ Ow w' w.heap.size 5 1 (.slice q (endT true key val).length c) (endT true key val).length (bys (endT true key val)) ∧ Below w.heap.size w w' := by
  obtain ⟨i0, hi, hz0, hz1, hz2⟩ := parts3M info8b
  obtain ⟨w1, hw1⟩ : ∃ w1, w1 = w.alloc (.cells C 32) := ⟨_, rfl⟩
  have hb1 : Below w.heap.size w w1 := by rw [hw1]; exact (Below.refl _ _).alloc (Nat.le_refl _) _
  have hr1 : w1.heap[w.heap.size]? = some (.cells C 32 (0, 0)) := by rw [hw1]; exact heap_alloc_new w _
  have c1 : w1.cell? ⟨w.heap.size, 1, none⟩ = some (.bool true) := (cell_of_row _ _ _ _ _ _ hr1).trans h1
  obtain ⟨T, hT⟩ : ∃ T, T = endT true key val := ⟨_, rfl⟩
  have HT : Hid (([0] ++ key) ++ val = T) := Lib.hid (by rw [hT]; rfl)
  have HTL : Hid (1 + 32 + 32 = T.length) := Lib.hid (by rw [← HT.out]; simp [hk, hv])
  rw [← hT]
  have HK := Lib.hid hk
  have HV := Lib.hid hv
  have HKP := Lib.hid hkp
  have HVP := Lib.hid hvp
  have HR1 := Lib.hid hr1
  have HB1 := Lib.hid hb1
  have HW1 := Lib.hid hw1
  rw [hw1] at c1
  clear hk hv hw1 hb1 hr1 hkp hvp h1 hT
  go_enter Tryz.func58, Tryz.ntmps58
  go_wp2_with fail
  rw [← HW1.out] at c1 ⊢
  refine Rp.pure [1, 2, 3, 5, 6, 7] [0, 4, 8, 9] (by kernel_rfl) (by kernel_rfl) ?_; simp only [Rp.pickN, Rp.nth]
  repeat (refine Rp.uK rfl ?_; intro K hK; apply Exists.intro; refine ⟨?_, ?_⟩; (focus (intro x; go_simp; (first | (fail) | ((try go_bits); (try go_simp); (try rfl))))); go_simp; refine hK _ ?_; clear hK K)
  refine Rp.uDone ?_
  obtain ⟨wl, hwl⟩ : ∃ wl, wl = (w1.alloc (.cells #[.int .u8 0] 5)).drew := ⟨_, rfl⟩
  have hsz1 := HB1.out.size
  have hbl : Below w.heap.size w wl := by rw [hwl]; exact (HB1.out.alloc hsz1 _).drew
  have HO0 : Hid (Ow wl w.heap.size 5 1 (.slice (some ⟨w1.heap.size, 0, none⟩) 1 1) 1 (bys [0])) := Lib.hid (by rw [hwl]; exact Ow.lit w1 #[.int .u8 0] 5 1 1 w.heap.size hsz1 (by decide) rfl)
  have hlt := lt_of_heap HR1.out
  have HRW : Hid (wl.heap[w.heap.size]? = some (.cells C 32 (0, 0))) := Lib.hid (by rw [hwl]; exact (Rg.heap_alloc_past _ _ _ hlt).trans HR1.out)
  have HWL := Lib.hid hwl
  have HBL := Lib.hid hbl
  clear hwl hbl hlt
  go_wp2_with (at_builtin; go_must (rw [← HWL.out]); go_must (refine app_ow3 rfl _ _ 23 23 rfl w.heap.size 5 i0 (.int .u8 0) 1 1 Tryz.underlying23 hi hz0 hz1 hz2 rfl _ 1 _ rfl HO0.out 32 _ rfl (Rd.src Tryz.underlying23 (HKP.out.rd HRW.out HK.out (by decide)) (bys_one _)) (by decide) (by decide) HBL.out.size ?_); go_must (intro v3 w3 how3 hg3 hn3); go_must (refine Hid.out ?_))
  refine Lib.hid ?_
  obtain ⟨q3, c3, rfl⟩ := Ow_form how3
  rw [← bys_append] at how3
  have hb3 : Below w.heap.size w w3 := HBL.out.grown hg3 HBL.out.size (fun k hk => (HO0.out.lt k hk).1)
  have hrw3 : w3.heap[w.heap.size]? = some (.cells C 32 (0, 0)) := by
    have hlt := lt_of_heap HRW.out
    have hlt1 := lt_of_heap HR1.out
    rw [hg3.block _ hlt (fun e => by have e2 : some w.heap.size = some w1.heap.size := e; have := Option.some.inj e2; omega)]
    exact HRW.out
  have HO3 := Lib.hid how3
  have HB3 := Lib.hid hb3
  have HR3 := Lib.hid hrw3
  clear how3 hg3 hn3 hb3 hrw3
  go_wp2_with (at_builtin; go_must (refine app_ow3 rfl _ _ 23 23 rfl w.heap.size 5 i0 (.int .u8 0) 1 1 Tryz.underlying23 hi hz0 hz1 hz2 rfl _ (1 + 32) _ rfl HO3.out 32 _ rfl (Rd.src Tryz.underlying23 (HVP.out.rd HR3.out HV.out (by decide)) (bys_one _)) (by decide) (by decide) HB3.out.size ?_); go_must (intro v4 w4 how4 hg4 hn4); go_must (refine Hid.out ?_))
  refine Lib.hid ?_
  obtain ⟨q4, c4, rfl⟩ := Ow_form how4
  rw [← bys_append, HT.out, HTL.out] at how4
  rw [HTL.out]
  have hb4 : Below w.heap.size w w4 := HB3.out.grown hg4 HB3.out.size (fun k hk => (HO3.out.lt k hk).1)
  have HO4 := Lib.hid how4
  have HB4 := Lib.hid hb4
  clear how4 hg4 hn4 hb4
  go_wp2_with fail
  refine NoPanic.normal ?_
  go_wp2_with fail
  go_ret
  exact ⟨q4, c4, rfl, HO4.out, HB4.out⟩
theorem setRow_heap_ne {w : World} {g k : Nat} {C : Array Value} (h : k ≠ g) : (w.setRow g C).heap[k]? = w.heap[k]? := by
  unfold World.setRow
  exact (Array.getElem?_modify ..).trans (if_neg (Ne.symm h))
theorem below_setRow {w x : World} {g : Nat} {C : Array Value} (h : Below w.heap.size w x) (hg : w.heap.size ≤ g) : Below w.heap.size w (x.setRow g C) := Rg.below_setRow h hg _
theorem info32r (s : List UInt8) (h : s.length = 32) : (Tryz.prog.info? 22).map (·.size) = some (bysA s).size := by
  rw [bysA_size, h]
  kernel_rfl
set_option maxRecDepth 100000 in
set_option maxHeartbeats 1000000 in
theorem node_any (d : Nat) (hd : d < 1000) (right : Bool) (s b : List UInt8) (hs : s.length = 32) (hb : b.length = 32) (w : World) :
    Calls Tryz.prog 59 #[.int .i64 (d : Int), .int .i64 (if right then 1 else 0), .agg (bysA s), .agg (bysA b)] w fun e w' => ∃ q c, e = .returned (.slice q (Up.nodeT d right s b).length c) ∧ Ow w' w.heap.size 5 1 (.slice q (Up.nodeT d right s b).length c) (Up.nodeT d right s b).length (bys (Up.nodeT d right s b)) ∧ Below w.heap.size w w' := by
  obtain ⟨i0, hi, hz0, hz1, hz2⟩ := parts3M info8b
  obtain ⟨w1, hw1⟩ : ∃ w1, w1 = (w.alloc (.cells (bysA s) 22)).alloc (.cells (bysA b) 22) := ⟨_, rfl⟩
  have hb1 : Below w.heap.size w w1 := by rw [hw1]; exact ((Below.refl _ _).alloc (Nat.le_refl _) _).alloc (by simp) _
  have hra : w1.heap[w.heap.size]? = some (.cells (bysA s) 22 (0, 0)) := by rw [hw1]; exact (Rg.heap_alloc_past _ _ _ (by simp)).trans (Rg.heap_alloc_at w _ _ rfl)
  have hrb : w1.heap[w.heap.size + 1]? = some (.cells (bysA b) 22 (0, 0)) := by rw [hw1]; exact Rg.heap_alloc_at _ _ _ (by simp)
  obtain ⟨x1, hx1⟩ : ∃ x1, x1 = UInt8.ofNat (d / 256) := ⟨_, rfl⟩
  obtain ⟨x2, hx2⟩ : ∃ x2, x2 = UInt8.ofNat d := ⟨_, rfl⟩
  have e1 : (d : Int) / 256 = (x1.toNat : Int) := by rw [hx1, UInt8.toNat_ofNat']; omega
  have e2 : (d : Int) % 256 = (x2.toNat : Int) := by rw [hx2, UInt8.toNat_ofNat']; omega
  have HHS := Lib.hid hs
  have HHB := Lib.hid hb
  have HB1 := Lib.hid hb1
  have HA1 := Lib.hid hra
  have HC1 := Lib.hid hrb
  have HW1 := Lib.hid hw1
  have HX : Hid (x1 = UInt8.ofNat (d / 256) ∧ x2 = UInt8.ofNat d) := Lib.hid ⟨hx1, hx2⟩
  clear hs hb hb1 hra hrb hw1 hx1 hx2
  cases right with
  | false =>
    obtain ⟨T, hT⟩ : ∃ T, T = Up.nodeT d false s b := ⟨_, rfl⟩
    have HT : Hid (([1, x1, x2] ++ s) ++ b = T) := Lib.hid (by rw [hT, HX.out.1, HX.out.2]; unfold Up.nodeT; simp)
    have HTL : Hid (3 + 32 + 32 = T.length) := Lib.hid (by rw [← HT.out]; simp [HHS.out, HHB.out])
    rw [← hT]
    clear hT HX
    simp only [Bool.false_eq_true, if_false]
    go_enter Tryz.func59, Tryz.ntmps59
    go_wp2_with fail
    rw [← HW1.out]
    obtain ⟨wn, hwn⟩ : ∃ wn, wn = w1.alloc (.cells #[.int .u8 1, .int .u8 (x1.toNat : Int), .int .u8 (x2.toNat : Int)] 5) := ⟨_, rfl⟩
    have hs1 : w1.heap.size = w.heap.size + 1 + 1 := by rw [HW1.out]; simp
    have HBN : Hid (Below w.heap.size w wn) := Lib.hid (by rw [hwn]; exact HB1.out.alloc HB1.out.size _)
    have HRA : Hid (wn.heap[w.heap.size]? = some (.cells (bysA s) 22 (0, 0))) := Lib.hid (by rw [hwn]; exact (Rg.heap_alloc_past _ _ _ (lt_of_heap HA1.out)).trans HA1.out)
    have HRB : Hid (wn.heap[w.heap.size + 1]? = some (.cells (bysA b) 22 (0, 0))) := Lib.hid (by rw [hwn]; exact (Rg.heap_alloc_past _ _ _ (lt_of_heap HC1.out)).trans HC1.out)
    have HO3 : Hid (Ow wn w.heap.size 5 1 (.slice (some ⟨w.heap.size + 1 + 1, 0, none⟩) 3 3) 3 (bys [1, x1, x2])) := Lib.hid (by rw [hwn, ← hs1]; exact Ow.lit w1 #[.int .u8 1, .int .u8 (x1.toNat : Int), .int .u8 (x2.toNat : Int)] 5 1 3 w.heap.size HB1.out.size (by decide) rfl)
    rw [← hwn]
    clear hwn hs1
    refine Rp.pure [0, 1, 3] [2, 4, 5] (by kernel_rfl) (by kernel_rfl) ?_; simp only [Rp.pickN, Rp.nth]
    repeat (refine Rp.uK rfl ?_; intro K hK; apply Exists.intro; refine ⟨?_, ?_⟩; (focus (intro x; go_simp; (first | (fail) | ((try go_bits); (try go_simp); (try rfl))))); go_simp; refine hK _ ?_; clear hK K)
    refine Rp.uDone ?_
    go_wp2_with (at_builtin; go_must (refine app_ow3 rfl _ _ 23 23 rfl w.heap.size 5 i0 (.int .u8 0) 1 1 Tryz.underlying23 hi hz0 hz1 hz2 rfl _ 3 _ rfl HO3.out 32 _ rfl (Rd.src Tryz.underlying23 ((PartAt.self _).rd HRA.out HHS.out (by decide)) (bys_one _)) (by decide) (by decide) HBN.out.size ?_); go_must (intro v4 w4 how4 hg4 hn4); go_must (refine Hid.out ?_))
    refine Lib.hid ?_
    obtain ⟨q4, c4, rfl⟩ := Ow_form how4
    rw [← bys_append] at how4
    have hb4 : Below w.heap.size w w4 := HBN.out.drew.grown hg4 HBN.out.size (fun k hk => (HO3.out.lt k hk).1)
    have hrb4 : w4.heap[w.heap.size + 1]? = some (.cells (bysA b) 22 (0, 0)) := by
      have hlt := lt_of_heap HRB.out
      rw [hg4.block _ hlt (fun e => by have e2 : some (w.heap.size + 1) = some (w.heap.size + 1 + 1) := e; have := Option.some.inj e2; omega)]
      exact HRB.out
    have HO4 := Lib.hid how4
    have HB4 := Lib.hid hb4
    have HR4 := Lib.hid hrb4
    clear how4 hg4 hn4 hb4 hrb4
    go_wp2_with (at_builtin; go_must (refine app_ow3 rfl _ _ 23 23 rfl w.heap.size 5 i0 (.int .u8 0) 1 1 Tryz.underlying23 hi hz0 hz1 hz2 rfl _ (3 + 32) _ rfl HO4.out 32 _ rfl (Rd.src Tryz.underlying23 ((PartAt.self _).rd HR4.out HHB.out (by decide)) (bys_one _)) (by decide) (by decide) HB4.out.size ?_); go_must (intro v5 w5 how5 hg5 hn5); go_must (refine Hid.out ?_))
    refine Lib.hid ?_
    obtain ⟨q5, c5, rfl⟩ := Ow_form how5
    rw [← bys_append, HT.out, HTL.out] at how5
    rw [HTL.out]
    have hb5 : Below w.heap.size w w5 := HB4.out.grown hg5 HB4.out.size (fun k hk => (HO4.out.lt k hk).1)
    have HO5 := Lib.hid how5
    have HB5 := Lib.hid hb5
    clear how5 hg5 hn5 hb5
    go_wp2_with fail
    refine NoPanic.normal ?_
    go_wp2_with fail
    go_ret
    exact ⟨q5, c5, rfl, HO5.out, HB5.out⟩
  | true =>
    obtain ⟨T, hT⟩ : ∃ T, T = Up.nodeT d true s b := ⟨_, rfl⟩
    have HT : Hid (([1, x1, x2] ++ b) ++ s = T) := Lib.hid (by rw [hT, HX.out.1, HX.out.2]; unfold Up.nodeT; simp)
    have HTL : Hid (3 + 32 + 32 = T.length) := Lib.hid (by rw [← HT.out]; simp [HHS.out, HHB.out])
    rw [← hT]
    clear hT HX
    simp only [if_true]
    have HIS := Lib.hid (info32r s HHS.out)
    have HIB := Lib.hid (info32r b HHB.out)
    have HOS := Lib.hid (bysA_one s)
    have HOB := Lib.hid (bysA_one b)
    have HSB : Hid ((bysA s).size = (bysA b).size) := Lib.hid (by rw [bysA_size, bysA_size, HHS.out, HHB.out])
    obtain ⟨w2, hw2⟩ : ∃ w2, w2 = w1.setRow w.heap.size (bysA b) := ⟨_, rfl⟩
    obtain ⟨w3, hw3⟩ : ∃ w3, w3 = w2.setRow (w.heap.size + 1) (bysA s) := ⟨_, rfl⟩
    have ha2 : w2.heap[w.heap.size]? = some (.cells (bysA b) 22 (0, 0)) := by rw [hw2]; exact setRow_heap _ _ _ _ _ _ HA1.out
    have hc2 : w2.heap[w.heap.size + 1]? = some (.cells (bysA b) 22 (0, 0)) := by rw [hw2]; exact (setRow_heap_ne (by omega)).trans HC1.out
    have HC2 := Lib.hid hc2
    have HA3 : Hid (w3.heap[w.heap.size]? = some (.cells (bysA b) 22 (0, 0))) := Lib.hid (by rw [hw3]; exact (setRow_heap_ne (by omega)).trans ha2)
    have HC3 : Hid (w3.heap[w.heap.size + 1]? = some (.cells (bysA s) 22 (0, 0))) := Lib.hid (by rw [hw3]; exact setRow_heap _ _ _ _ _ _ hc2)
    have HB3 : Hid (Below w.heap.size w w3) := Lib.hid (by rw [hw3, hw2]; exact below_setRow (below_setRow HB1.out (Nat.le_refl _)) (by omega))
    have hs3 : w3.heap.size = w.heap.size + 1 + 1 := by rw [hw3, hw2, HW1.out]; simp [World.setRow]
    have HS3 := Lib.hid hs3
    have HW2 := Lib.hid hw2
    have HW3 := Lib.hid hw3
    clear hw2 hw3 ha2 hc2 hs3
    go_enter Tryz.func59, Tryz.ntmps59
    go_upto_region 2 with fail
    rw [← HW1.out]
    go_wp2_with (first | (refine wpList_load_row rfl 22 _ rfl (w.heap.size + 1) rfl 22 (bysA b) (0, 0) _ HC1.out Tryz.underlying22 rfl HIB.out ?_) | (refine wpList_load_row rfl 22 _ rfl w.heap.size rfl 22 (bysA s) (0, 0) _ HA1.out Tryz.underlying22 rfl HIS.out ?_) | (refine Rg.store_row rfl 22 _ _ rfl w.heap.size rfl 22 (bysA s) (bysA b) rfl HA1.out HIB.out HSB.out HOB.out ?_; rw [← HW2.out]) | (refine Rg.store_row rfl 22 _ _ rfl (w.heap.size + 1) rfl 22 (bysA b) (bysA s) rfl HC2.out HIS.out HSB.out.symm HOS.out ?_; rw [← HW3.out]))
    obtain ⟨wn, hwn⟩ : ∃ wn, wn = w3.alloc (.cells #[.int .u8 1, .int .u8 (x1.toNat : Int), .int .u8 (x2.toNat : Int)] 5) := ⟨_, rfl⟩
    have HBN : Hid (Below w.heap.size w wn) := Lib.hid (by rw [hwn]; exact HB3.out.alloc HB3.out.size _)
    have HRA : Hid (wn.heap[w.heap.size]? = some (.cells (bysA b) 22 (0, 0))) := Lib.hid (by rw [hwn]; exact (Rg.heap_alloc_past _ _ _ (lt_of_heap HA3.out)).trans HA3.out)
    have HRB : Hid (wn.heap[w.heap.size + 1]? = some (.cells (bysA s) 22 (0, 0))) := Lib.hid (by rw [hwn]; exact (Rg.heap_alloc_past _ _ _ (lt_of_heap HC3.out)).trans HC3.out)
    have HO3 : Hid (Ow wn w.heap.size 5 1 (.slice (some ⟨w.heap.size + 1 + 1, 0, none⟩) 3 3) 3 (bys [1, x1, x2])) := Lib.hid (by rw [hwn, ← HS3.out]; exact Ow.lit w3 #[.int .u8 1, .int .u8 (x1.toNat : Int), .int .u8 (x2.toNat : Int)] 5 1 3 w.heap.size HB3.out.size (by decide) rfl)
    rw [← hwn, HS3.out]
    clear hwn
    refine Rp.pure [0, 1, 3] [2, 4, 5] (by kernel_rfl) (by kernel_rfl) ?_; simp only [Rp.pickN, Rp.nth]
    repeat (refine Rp.uK rfl ?_; intro K hK; apply Exists.intro; refine ⟨?_, ?_⟩; (focus (intro x; go_simp; (first | (fail) | ((try go_bits); (try go_simp); (try rfl))))); go_simp; refine hK _ ?_; clear hK K)
    refine Rp.uDone ?_
    go_wp2_with (at_builtin; go_must (refine app_ow3 rfl _ _ 23 23 rfl w.heap.size 5 i0 (.int .u8 0) 1 1 Tryz.underlying23 hi hz0 hz1 hz2 rfl _ 3 _ rfl HO3.out 32 _ rfl (Rd.src Tryz.underlying23 ((PartAt.self _).rd HRA.out HHB.out (by decide)) (bys_one _)) (by decide) (by decide) HBN.out.size ?_); go_must (intro v4 w4 how4 hg4 hn4); go_must (refine Hid.out ?_))
    refine Lib.hid ?_
    obtain ⟨q4, c4, rfl⟩ := Ow_form how4
    rw [← bys_append] at how4
    have hb4 : Below w.heap.size w w4 := HBN.out.drew.grown hg4 HBN.out.size (fun k hk => (HO3.out.lt k hk).1)
    have hrb4 : w4.heap[w.heap.size + 1]? = some (.cells (bysA s) 22 (0, 0)) := by
      have hlt := lt_of_heap HRB.out
      rw [hg4.block _ hlt (fun e => by have e2 : some (w.heap.size + 1) = some (w.heap.size + 1 + 1) := e; have := Option.some.inj e2; omega)]
      exact HRB.out
    have HO4 := Lib.hid how4
    have HB4 := Lib.hid hb4
    have HR4 := Lib.hid hrb4
    clear how4 hg4 hn4 hb4 hrb4
    go_wp2_with (at_builtin; go_must (refine app_ow3 rfl _ _ 23 23 rfl w.heap.size 5 i0 (.int .u8 0) 1 1 Tryz.underlying23 hi hz0 hz1 hz2 rfl _ (3 + 32) _ rfl HO4.out 32 _ rfl (Rd.src Tryz.underlying23 ((PartAt.self _).rd HR4.out HHS.out (by decide)) (bys_one _)) (by decide) (by decide) HB4.out.size ?_); go_must (intro v5 w5 how5 hg5 hn5); go_must (refine Hid.out ?_))
    refine Lib.hid ?_
    obtain ⟨q5, c5, rfl⟩ := Ow_form how5
    rw [← bys_append, HT.out, HTL.out] at how5
    rw [HTL.out]
    have hb5 : Below w.heap.size w w5 := HB4.out.grown hg5 HB4.out.size (fun k hk => (HO4.out.lt k hk).1)
    have HO5 := Lib.hid how5
    have HB5 := Lib.hid hb5
    clear how5 hg5 hn5 hb5
    go_wp2_with fail
    refine NoPanic.normal ?_
    go_wp2_with fail
    go_ret
    exact ⟨q5, c5, rfl, HO5.out, HB5.out⟩
end Stn
end Go.Proofs.YtmonkggoilhngaaGreatDoor
/- A member's text and its sum. Conditions: none beyond the bounds of bytes. -/
namespace Go.Proofs.YtmonkggoilhngaaGreatDoor
open Go.RowKit Bits Mem Sha
namespace Stn
theorem infoMem : (Tryz.prog.info? 43).map (·.size) = some 35 := by kernel_rfl
theorem Ow.lit1 (w : World) (x : UInt8) : Ow (w.alloc (.cells #[.int .u8 (x.toNat : Int)] 5)) w.heap.size 5 1 (.slice (some ⟨w.heap.size, 0, none⟩) 1 1) 1 (bys [x]) := Ow.lit w #[.int .u8 (x.toNat : Int)] 5 1 1 w.heap.size (Nat.le_refl _) (by decide) rfl
set_option maxRecDepth 100000 in
set_option maxHeartbeats 2000000 in
theorem vlive_any (M : Array Value) (n : Int) (l : List UInt8) (h1 : M[1]? = some (.bool false)) (h2 : M[2]? = some (.int .i64 n)) (h3 : PartAt M 3 (bysA l)) (hl : l.length = 32) (w : World) :
    Calls Tryz.prog 51 #[.agg M] w fun e w' => ∃ q c, e = .returned (.slice q (valT false n l).length c) ∧ Ow w' w.heap.size 5 1 (.slice q (valT false n l).length c) (valT false n l).length (bys (valT false n l)) ∧ Below w.heap.size w w' := by
  obtain ⟨i0, hi, hz0, hz1, hz2⟩ := parts3M info8b
  obtain ⟨wz, hwz⟩ : ∃ wz, wz = w.alloc (.cells M 43) := ⟨_, rfl⟩
  have hbz : Below w.heap.size w wz := by rw [hwz]; exact (Below.refl _ _).alloc (Nat.le_refl _) _
  have hrz : wz.heap[w.heap.size]? = some (.cells M 43 (0, 0)) := by rw [hwz]; exact heap_alloc_new w _
  have c1 : wz.cell? ⟨w.heap.size, 1, none⟩ = some (.bool false) := (cell_of_row _ _ _ _ _ _ hrz).trans h1
  have c2 : wz.cell? ⟨w.heap.size, 2, none⟩ = some (.int .i64 n) := (cell_of_row _ _ _ _ _ _ hrz).trans h2
  obtain ⟨T, hT⟩ : ∃ T, T = valT false n l := ⟨_, rfl⟩
  have HTE : Hid (([6] ++ Num8.eight n) ++ l = T) := Lib.hid (by rw [hT]; rfl)
  have HTL : Hid (T.length = 41) := Lib.hid (by rw [← HTE.out]; simp [Num8.eight_length, hl])
  rw [← hT]
  have HP := Lib.hid h3
  have HL := Lib.hid hl
  have HBZ := Lib.hid hbz
  have HRZ := Lib.hid hrz
  have HWZ := Lib.hid hwz
  have hgz := lt_of_heap hrz
  rw [hwz] at c1
  clear hT h1 h2 h3 hl hwz hbz hrz
  go_enter Tryz.func51, Tryz.ntmps51
  go_wp2_with fail
  rw [← HWZ.out] at c1 ⊢
  refine Rc.region (wz.heap.size) 8 [Rc.F 0 (fun p => .slice p.q 1 p.c) (fun p F y => OwF F y wz.heap.size 5 1 (.slice p.q 1 p.c) 1 (bys [6])), Rc.F 3 (fun p => .slice p.q 8 p.c) (fun p _ y => Rd y 1 (.slice p.q 8 p.c) 8 (bys (Num8.eight n))), Rc.C 4 [0, 3] [0] (fun p => .slice p.q 9 p.c) (fun p F y => OwF F y wz.heap.size 5 1 (.slice p.q 9 p.c) 9 (bys ([6] ++ Num8.eight n))), Rc.C 7 [4] [4] (fun p => .slice p.q T.length p.c) (fun p F y => OwF F y wz.heap.size 5 1 (.slice p.q T.length p.c) T.length (bys T))] [7] (by kernel_rfl) (Nat.le_refl _) (by kernel_rfl) ?_; intro p; simp only [List.take, List.drop]
  refine Rc.fK rfl rfl rfl rfl ?_ ?_
  · intro x Fs hx hle hg K hK
    have how := Ow.lit1 x 6
    go_wp2_with fail
    exact hK ⟨some ⟨x.heap.size, 0, none⟩, 1, undef⟩ _ ((Below.refl _ _).alloc (Nat.le_refl _) _) (fun F y hF hy => OwF.fresh how hle hF hy)
  intro K hK; go_simp; refine hK _ ?_; clear hK K
  iterate 1 (refine Rc.rK rfl rfl ?_; intro K hK; apply Exists.intro; refine ⟨?_, ?_⟩; (focus (intro x hx;  go_simp; (first | (fail) | ((try go_bits); (try go_simp); (try rfl))))); go_simp; refine hK _ ?_; clear hK K)
  iterate 1 (refine Rc.rK rfl rfl ?_; intro K hK; apply Exists.intro; refine ⟨?_, ?_⟩; (focus (intro x hx; have e2 := Rc.cell_le hx hgz c2; go_simp; (first | (fail) | ((try go_bits); (try go_simp); (try rfl))))); go_simp; refine hK _ ?_; clear hK K)
  refine Rc.fK rfl rfl rfl rfl ?_ ?_
  · intro x Fs hx hle hg K hK
    go_wp2_with fail
    refine (number8_any n x).mono ?_
    rintro e x' ⟨q', c', rfl, hown, hb⟩
    go_wp2_with fail
    exact hK ⟨q', c', undef⟩ x' hb (fun F y hF hy => Rd.of_ow (OwF.fresh hown hle hF hy).1)
  intro K hK; go_simp; refine hK _ ?_; clear hK K
  refine Rc.cK rfl rfl rfl ?_ ?_
  · intro x Fs hx hle hg K hK
    have HO : Hid (OwF (Fs 0) x wz.heap.size 5 1 (.slice (p 0).q 1 (p 0).c) 1 (bys [6])) := Lib.hid hg.1
    have hrl : Rd x 1 (.slice (p 3).q 8 (p 3).c) 8 (bys (Num8.eight n)) := hg.2.1
    refine app_ow3 rfl _ _ 23 23 rfl wz.heap.size 5 i0 (.int .u8 0) 1 1 Tryz.underlying23 hi hz0 hz1 hz2 rfl _ 1 _ rfl HO.out.1 8 _ rfl (Rd.src Tryz.underlying23 hrl (bys_one _)) (by decide) (by decide) hle ?_
    intro v' x' how hg' hor
    obtain ⟨q', c', rfl⟩ := Ow_form how
    rw [← bys_append] at how
    have how : Mem.Ow x' wz.heap.size 5 1 (.slice q' 9 c') 9 (bys ([6] ++ Num8.eight n)) := how
    go_wp2_with fail
    exact hK ⟨q', c', undef⟩ x' (HO.out.eff (by simp [Rc.C]) hg') (fun y hy => HO.out.next (by simp [Rc.C]) how hor hy)
  intro K hK; go_simp; refine hK _ ?_; clear hK K
  iterate 1 (refine Rc.rK rfl rfl ?_; intro K hK; apply Exists.intro; refine ⟨?_, ?_⟩; (focus (intro x hx;  go_simp; (first | (fail) | ((try go_bits); (try go_simp); (try rfl))))); go_simp; refine hK _ ?_; clear hK K)
  iterate 1 (refine Rc.rK rfl rfl ?_; intro K hK; apply Exists.intro; refine ⟨?_, ?_⟩; (focus (intro x hx;  go_simp; (first | (fail) | ((try go_bits); (try go_simp); (try rfl))))); go_simp; refine hK _ ?_; clear hK K)
  refine Rc.cK rfl rfl rfl ?_ ?_
  · intro x Fs hx hle hg K hK
    have HO : Hid (OwF (Fs 4) x wz.heap.size 5 1 (.slice (p 4).q 9 (p 4).c) 9 (bys ([6] ++ Num8.eight n))) := Lib.hid hg.1
    have hrl := HP.out.rd (Rp.row_le (Rc.undrew hx) HRZ.out) HL.out (by decide)
    refine app_ow3 rfl _ _ 23 23 rfl wz.heap.size 5 i0 (.int .u8 0) 1 1 Tryz.underlying23 hi hz0 hz1 hz2 rfl _ 9 _ rfl HO.out.1 32 _ rfl (Rd.src Tryz.underlying23 hrl (bys_one _)) (by decide) (by decide) hle ?_
    intro v' x' how hg' hor
    obtain ⟨q', c', rfl⟩ := Ow_form how
    rw [← bys_append, HTE.out, show 9 + 32 = T.length from HTL.out.symm] at how
    rw [show 9 + 32 = T.length from HTL.out.symm] at hor
    rw [show 9 + 32 = T.length from HTL.out.symm]
    go_wp2_with fail
    exact hK ⟨q', c', undef⟩ x' (HO.out.eff (by simp [Rc.C]) hg') (fun y hy => HO.out.next (by simp [Rc.C]) how hor hy)
  intro K hK; go_simp; refine hK _ ?_; clear hK K
  refine Rc.done fun x Fs hx hle hg => ?_
  have how : OwF _ x wz.heap.size 5 1 (.slice (p 7).q T.length (p 7).c) T.length (bys T) := hg.1
  obtain ⟨q7, hq7⟩ : ∃ q7, q7 = (p 7).q := ⟨_, rfl⟩
  obtain ⟨c7, hc7⟩ : ∃ c7, c7 = (p 7).c := ⟨_, rfl⟩
  rw [← hq7, ← hc7] at how ⊢
  have HO := Lib.hid (how.1.base_le HBZ.out.size)
  have HB := Lib.hid (HBZ.out.trans ((Rc.undrew hx).mono HBZ.out.size))
  clear hx hle hg hq7 hc7 how
  go_wp2_with fail
  refine NoPanic.normal ?_
  go_wp2_with fail
  go_ret
  exact ⟨q7, c7, rfl, HO.out, HB.out⟩
theorem vtext_any (M : Array Value) (gone : Bool) (n : Int) (l : List UInt8) (h1 : M[1]? = some (.bool gone)) (h2 : M[2]? = some (.int .i64 n)) (h3 : PartAt M 3 (bysA l)) (hl : l.length = 32) (w : World) :
    Calls Tryz.prog 51 #[.agg M] w fun e w' => ∃ q c, e = .returned (.slice q (valT gone n l).length c) ∧ Ow w' w.heap.size 5 1 (.slice q (valT gone n l).length c) (valT gone n l).length (bys (valT gone n l)) ∧ Below w.heap.size w w' := by
  cases gone with
  | false => exact vlive_any M n l h1 h2 h3 hl w
  | true =>
    refine (Fnd.value_gone M w h1).mono ?_
    rintro e w' ⟨q, rfl, h, hb⟩
    exact ⟨q, 1, rfl, h, hb⟩
theorem valT_le (g : Bool) (n : Int) (l : List UInt8) (hl : l.length = 32) : (valT g n l).length ≤ 41 := by
  cases g <;> simp [valT, Num8.eight_length, hl]
set_option maxRecDepth 100000 in
set_option maxHeartbeats 1000000 in
theorem value_any (M : Array Value) (gone : Bool) (n : Int) (l : List UInt8) (hs : M.size = 35) (h1 : M[1]? = some (.bool gone)) (h2 : M[2]? = some (.int .i64 n)) (h3 : PartAt M 3 (bysA l)) (hl : l.length = 32) (w : World) (hS : Sha.Tabs w) :
    Calls Tryz.prog 47 #[.agg M] w fun e w' => e = .returned (.agg (bysA (sha (valT gone n l)))) ∧ Below w.heap.size w w' := by
  obtain ⟨w1, hw1⟩ : ∃ w1, w1 = w.alloc (.cells M 43) := ⟨_, rfl⟩
  obtain ⟨w0, hw0⟩ : ∃ w0, w0 = w1.alloc (.cells (bysA zeros32) 22) := ⟨_, rfl⟩
  have hs1 : w1.heap.size = w.heap.size + 1 := by rw [hw1]; simp
  have hb1 : Below w.heap.size w w1 := by rw [hw1]; exact (Below.refl _ _).alloc (Nat.le_refl _) _
  have hb0 : Below w.heap.size w w0 := by rw [hw0]; exact hb1.alloc hb1.size _
  have hrM : w0.heap[w.heap.size]? = some (.cells M 43 (0, 0)) := by rw [hw0]; exact (Rg.heap_alloc_past _ _ _ (by omega)).trans (by rw [hw1]; exact heap_alloc_new w _)
  have hr0 : w0.heap[w.heap.size + 1]? = some (.cells (bysA zeros32) 22 (0, 0)) := by rw [hw0, ← hs1]; exact heap_alloc_new w1 _
  have HLD : Hid ((Instr.loadAt 43 (.pointer (some ⟨w.heap.size, 0, none⟩))).run Tryz.prog w0 = .ok (.agg M) w0) := Lib.hid ((PartAt.self M).load hrM Tryz.underlying43 rfl (by rw [hs]; exact infoMem))
  have HVT := Lib.hid (vtext_any M gone n l h1 h2 h3 hl w0)
  have HVL := Lib.hid (valT_le gone n l hl)
  obtain ⟨T, hT⟩ : ∃ T, T = valT gone n l := ⟨_, rfl⟩
  rw [← hT] at HVT HVL ⊢
  have HS := Lib.hid hS
  have HB0 := Lib.hid hb0
  have HR0 := Lib.hid hr0
  have HW0 := Lib.hid hw0
  have HW1 := Lib.hid hw1
  clear hS hw0 hw1 hb0 hb1 hr0 hrM hs1 hs h1 h2 h3 hl hT
  go_enter Tryz.func47, Tryz.ntmps47
  go_wp2_with (rw [Ten.z32T, ← HW1.out, ← HW0.out]; refine l_load rfl _ _ rfl _ HLD.out ?_)
  refine HVT.out.mono ?_
  rintro e w1 ⟨q', c', rfl, how, hb⟩
  have hll := HVL.out
  have h0s := lt_of_heap HR0.out
  have HB1 := Lib.hid (HB0.out.trans (hb.mono HB0.out.size))
  have HR1 : Hid (w1.heap[w.heap.size + 1]? = some (.cells (bysA zeros32) 22 (0, 0))) := Lib.hid ((hb.block _ h0s).trans HR0.out)
  obtain ⟨w2, hw2⟩ : ∃ w2, w2 = w1.alloc (.cells #[.slice q' T.length c'] 23) := ⟨_, rfl⟩
  have hb2 : Below w1.heap.size w1 w2 := by rw [hw2]; exact (Below.refl _ _).alloc (Nat.le_refl _) _
  have HSU : Hid (Calls Tryz.prog 19 #[.slice (some ⟨w1.heap.size, 0, none⟩) 1 1] w2 fun e w' => e = .returned (.agg (bysA (sha T))) ∧ Below w2.heap.size w2 w') := Lib.hid (by
    have := parts_any (some ⟨w1.heap.size, 0, none⟩) 1 [T] w2 (HS.out.below (HB1.out.trans (hb2.mono HB1.out.size))) (by rw [hw2]; exact Fnd.partsF w1 T _ ⟨_, _, rfl, Rd.of_ow how⟩) (by simp; omega)
    simpa using this)
  have HB2 := Lib.hid (HB1.out.trans (hb2.mono HB1.out.size))
  have h1s := lt_of_heap HR1.out
  have HR2 : Hid (w2.heap[w.heap.size + 1]? = some (.cells (bysA zeros32) 22 (0, 0))) := Lib.hid ((hb2.block _ h1s).trans HR1.out)
  have HW2 := Lib.hid hw2
  clear how hb hw2 hb2 h0s h1s HVT HR0 HR1 HB0 HB1 HW0 HW1 HLD
  go_wp2_with fail
  rw [← HW2.out]
  refine HSU.out.mono ?_
  rintro e w3 ⟨rfl, hb3⟩
  have h2s := lt_of_heap HR2.out
  have HR3 : Hid (w3.heap[w.heap.size + 1]? = some (.cells (bysA zeros32) 22 (0, 0))) := Lib.hid ((hb3.block _ h2s).trans HR2.out)
  have HB3 := Lib.hid (HB2.out.trans (hb3.mono HB2.out.size))
  have HM := Lib.hid (sha_length T)
  obtain ⟨R, hR⟩ : ∃ R, R = sha T := ⟨_, rfl⟩
  rw [← hR] at HM ⊢
  have HRR : Hid (R = sha T) := Lib.hid hR
  have HIM := Lib.hid (info32r R HM.out)
  have HZR : Hid ((bysA zeros32).size = (bysA R).size) := Lib.hid (by rw [bysA_size, bysA_size, HM.out]; rfl)
  clear hR hb3 h2s HSU HR2 HB2 HW2
  go_wp2_with (refine Rg.store_row rfl 22 _ _ rfl (w.heap.size + 1) rfl 22 (bysA zeros32) (bysA R) rfl HR3.out HIM.out HZR.out (bysA_one _) ?_)
  refine bodyPost_ret (v := .agg (bysA R)) (results_cell_row (P := Tryz.prog) rfl _ _ (w.heap.size + 1) 22 (bysA R) (0, 0) _ rfl (setRow_heap _ _ _ _ 22 _ HR3.out) Tryz.underlying22 rfl HIM.out) rfl ⟨by rw [HRR.out], ?_⟩
  exact below_setRow HB3.out (by omega)
end Stn
end Go.Proofs.YtmonkggoilhngaaGreatDoor
/- A way's texts. Conditions: none beyond the bounds of bytes. -/
namespace Go.Proofs.YtmonkggoilhngaaGreatDoor
open Go.RowKit Bits Mem Sha
namespace Stn
open Ref (RdL All32)
def TxA (w : World) (base : Nat) (v : Value) (L : List (List UInt8)) : Prop :=
  ∃ vs : List Value, Ow w base 23 1 v L.length vs ∧ ∀ i, i < L.length → ∃ q c, vs[i]? = some (.slice q (L.getD i []).length c) ∧ Ow w base 5 1 (.slice q (L.getD i []).length c) (L.getD i []).length (bys (L.getD i []))
theorem TxA.below {w w' : World} {base : Nat} {v : Value} {L : List (List UInt8)} (h : TxA w base v L) (hb : Below w.heap.size w w') : TxA w' base v L := by
  obtain ⟨vs, h1, h2⟩ := h
  exact ⟨vs, h1.below hb, fun i hi => let ⟨q, c, e, h3⟩ := h2 i hi; ⟨q, c, e, h3.below hb⟩⟩
theorem TxA.parts {w : World} {base : Nat} {v : Value} {L : List (List UInt8)} (h : TxA w base v L) : Parts w v L := by
  obtain ⟨vs, h1, h2⟩ := h
  exact ⟨vs, Rd.of_ow h1, fun i hi => let ⟨q, c, e, h3⟩ := h2 i hi; ⟨q, c, e, Rd.of_ow h3⟩⟩
theorem TxA.base_le {w : World} {base base' : Nat} {v : Value} {L : List (List UInt8)} (h : TxA w base v L) (hb : base' ≤ base) : TxA w base' v L := by
  obtain ⟨vs, h1, h2⟩ := h
  exact ⟨vs, h1.base_le hb, fun i hi => let ⟨q, c, e, h3⟩ := h2 i hi; ⟨q, c, e, h3.base_le hb⟩⟩
theorem climb_split (bit : Nat → Bool) (S : Nat → List UInt8) : ∀ (d : Nat) (T : List UInt8), Up.climb bit S (d + 1) T = T :: Up.climb bit S d (Up.nodeT d (bit d) (sha T) (S d)) := fun _ _ => rfl
def upto (bit : Nat → Bool) (S : Nat → List UInt8) (n : Nat) (E : List UInt8) : Nat → List (List UInt8) × List UInt8
  | 0 => ([E], E)
  | j + 1 => let r := upto bit S n E j
    let T := Up.nodeT (n - 1 - j) (bit (n - 1 - j)) (sha r.2) (S (n - 1 - j))
    (r.1 ++ [T], T)
theorem upto_length (bit : Nat → Bool) (S : Nat → List UInt8) (n : Nat) (E : List UInt8) : ∀ j, (upto bit S n E j).1.length = j + 1
  | 0 => rfl
  | j + 1 => by
    show ((upto bit S n E j).1 ++ [_]).length = _
    rw [List.length_append, upto_length bit S n E j]
    rfl
theorem upto_last (bit : Nat → Bool) (S : Nat → List UInt8) (n : Nat) (E : List UInt8) : ∀ j, (upto bit S n E j).1.getD j [] = (upto bit S n E j).2
  | 0 => rfl
  | j + 1 => by
    show ((upto bit S n E j).1 ++ [_]).getD (j + 1) [] = _
    rw [List.getD_eq_getElem?_getD, List.getElem?_append_right (by rw [upto_length]; omega), upto_length]
    simp [upto]
theorem upto_mem (bit : Nat → Bool) (S : Nat → List UInt8) (n : Nat) (E : List UInt8) : ∀ j, (upto bit S n E j).2 ∈ (upto bit S n E j).1
  | 0 => List.mem_singleton.2 rfl
  | _ + 1 => List.mem_append_right _ (List.mem_singleton.2 rfl)
theorem upto_climb (bit : Nat → Bool) (S : Nat → List UInt8) (n : Nat) (E : List UInt8) : ∀ j, j ≤ n → Up.climb bit S n E = (upto bit S n E j).1.dropLast ++ Up.climb bit S (n - j) (upto bit S n E j).2
  | 0, _ => rfl
  | j + 1, h => by
    rw [upto_climb bit S n E j (by omega)]
    have hne : n - j = (n - 1 - j) + 1 := by omega
    rw [hne, climb_split]
    have h2 : n - (j + 1) = n - 1 - j := by omega
    rw [h2]
    have h3 : (upto bit S n E (j + 1)).1.dropLast = (upto bit S n E j).1 := by
      show ((upto bit S n E j).1 ++ [_]).dropLast = _
      rw [List.dropLast_append_of_ne_nil (by simp)]
      simp
    rw [h3]
    show _ = (upto bit S n E j).1 ++ Up.climb bit S (n - 1 - j) (Up.nodeT (n - 1 - j) (bit (n - 1 - j)) (sha (upto bit S n E j).2) (S (n - 1 - j)))
    have h4 : (upto bit S n E j).1 = (upto bit S n E j).1.dropLast ++ [(upto bit S n E j).2] := by
      have hl := upto_length bit S n E j
      have hn : (upto bit S n E j).1 ≠ [] := by intro e; rw [e] at hl; simp at hl
      rw [← upto_last bit S n E j]
      have hg : (upto bit S n E j).1.getD j [] = (upto bit S n E j).1.getLast hn := by
        rw [List.getD_eq_getElem?_getD, List.getLast_eq_getElem]
        rw [List.getElem?_eq_getElem (by omega)]
        simp [hl]
      rw [hg]
      exact (List.dropLast_concat_getLast hn).symm
    conv => rhs; rw [h4]
    simp
theorem upto_all (bit : Nat → Bool) (S : Nat → List UInt8) (n : Nat) (E : List UInt8) : (upto bit S n E n).1 = Up.climb bit S n E := by
  rw [upto_climb bit S n E n (Nat.le_refl _), Nat.sub_self]
  show _ = (upto bit S n E n).1.dropLast ++ [(upto bit S n E n).2]
  have hl := upto_length bit S n E n
  have hn : (upto bit S n E n).1 ≠ [] := by intro e; rw [e] at hl; simp at hl
  have hg : (upto bit S n E n).2 = (upto bit S n E n).1.getLast hn := by
    rw [← upto_last bit S n E n, List.getD_eq_getElem?_getD, List.getLast_eq_getElem, List.getElem?_eq_getElem (by omega)]
    simp [hl]
  rw [hg]
  exact (List.dropLast_concat_getLast hn).symm
theorem upto_top (bit : Nat → Bool) (S : Nat → List UInt8) (n : Nat) (E : List UInt8) : ∀ j, j ≤ n → Up.top bit S n E = Up.top bit S (n - j) (upto bit S n E j).2
  | 0, _ => rfl
  | j + 1, h => by
    rw [upto_top bit S n E j (by omega)]
    have hne : n - j = (n - 1 - j) + 1 := by omega
    rw [hne, show n - (j + 1) = n - 1 - j by omega]
    rfl
theorem upto_short (bit : Nat → Bool) (S : Nat → List UInt8) (n : Nat) (E : List UInt8) (hE : E.length ≤ 65) (hS : ∀ d, (S d).length = 32) : ∀ j, ∀ t ∈ (upto bit S n E j).1, t.length ≤ 67
  | 0, t, ht => by
    have : t = E := by simpa [upto] using ht
    rw [this]; omega
  | j + 1, t, ht => by
    have ht' : t ∈ (upto bit S n E j).1 ++ [Up.nodeT (n - 1 - j) (bit (n - 1 - j)) (sha (upto bit S n E j).2) (S (n - 1 - j))] := ht
    rw [List.mem_append] at ht'
    rcases ht' with h | h
    · exact upto_short bit S n E hE hS j t h
    · rw [List.mem_singleton] at h
      rw [h]
      unfold Up.nodeT
      cases bit (n - 1 - j) <;> simp [sha_length, hS]
theorem end_any (C : Array Value) (there : Bool) (key val : List UInt8) (h1 : C[1]? = some (.bool there)) (hkp : PartAt C 2 (bysA key)) (hvp : PartAt C 34 (bysA val)) (hk : key.length = 32) (hv : val.length = 32) (w : World) :
    Calls Tryz.prog 58 #[.agg C] w fun e w' => ∃ q c, e = .returned (.slice q (endT there key val).length c) ∧ Ow w' w.heap.size 5 1 (.slice q (endT there key val).length c) (endT there key val).length (bys (endT there key val)) ∧ Below w.heap.size w w' := by
  cases there with
  | true => exact end_there C key val h1 hkp hvp hk hv w
  | false =>
    refine (Fnd.end_none C w h1).mono ?_
    rintro e w' ⟨q, rfl, h, hb⟩
    exact ⟨q, 1, rfl, h, hb⟩
theorem endT_le (there : Bool) (key val : List UInt8) (hk : key.length = 32) (hv : val.length = 32) : (endT there key val).length ≤ 65 := by
  cases there <;> simp [endT, hk, hv]
theorem early_bel {spec : List Re.Sp} {j g i : Nat} {wr x : World} {s : Re.Sp} (hx : Re.Same (Re.PrE (fun k => k < wr.heap.size ∧ k ≠ g) spec j) wr.drew x) (hs : Re.look spec i = some s) (hj : j ∈ s.early) (ho : s.own g) : Below wr.heap.size wr x := by
  refine ⟨hx.os, hx.tape, hx.output, hx.size, fun k hk => ?_⟩
  by_cases e : k = g
  · subst e
    exact hx.block k (.inr ⟨i, s, hs, hj, ho⟩)
  · exact hx.block k (.inl ⟨hk, e⟩)
theorem same_bel {g base : Nat} {wr x : World} (hx : Re.Same (fun k => k < wr.heap.size ∧ k ≠ g) wr.drew x) (hb : base ≤ g) (hs : base ≤ wr.heap.size) : Below base wr x :=
  ⟨hx.os, hx.tape, hx.output, hx.size, fun k hk => hx.block k ⟨by omega, by omega⟩⟩
theorem load_rowU {x : World} {b off : Nat} {v : Value} (h : x.cell? ⟨b, off, none⟩ = some v) : (Instr.loadAt 23 (.pointer (some ⟨b, off, none⟩))).run Tryz.prog x = .ok v x := by
  simp [Instr.loadAt, Instr.sureAddr, loadVar, isAgg, run_underlying Tryz.underlying23, h]
theorem load_rowS {x : World} {b off : Nat} {v : Value} (h : x.cell? ⟨b, off, none⟩ = some v) : (Instr.loadAt 27 (.pointer (some ⟨b, off, none⟩))).run Tryz.prog x = .ok v x := by
  simp [Instr.loadAt, Instr.sureAddr, loadVar, isAgg, run_underlying Tryz.underlying27, h]
theorem below_cell {w x : World} {b off : Nat} {v : Value} (h : Below w.heap.size w x) (hc : w.cell? ⟨b, off, none⟩ = some v) : x.cell? ⟨b, off, none⟩ = some v := Rc.cell_le h (World.block_lt_of_cell? _ _ hc) hc
set_option maxRecDepth 100000 in
set_option maxHeartbeats 4000000 in
theorem waytexts_any (k : List UInt8) (C : Array Value) (there : Bool) (key val : List UInt8) (qs : Option Addr) (cs : Nat) (S : List (List UInt8)) (w : World) (hS : Sha.Tabs w) (hkl : k.length = 32) (hCs : C.size = 66) (h0 : C[0]? = some (.slice qs S.length cs)) (h1 : C[1]? = some (.bool there)) (hkp : PartAt C 2 (bysA key)) (hvp : PartAt C 34 (bysA val)) (hk : key.length = 32) (hv : val.length = 32)
    (hSd : RdL w (.slice qs S.length cs) S) (hSl : S.length ≤ 256) :
    Calls Tryz.prog 29 #[.agg (bysA k), .agg C] w fun e w' => ∃ q c, e = .returned (.slice q (wayT (bit k) S (endT there key val)).length c) ∧ TxA w' w.heap.size (.slice q (wayT (bit k) S (endT there key val)).length c) (wayT (bit k) S (endT there key val)) ∧ Below w.heap.size w w' := by
  obtain ⟨i0, hi, hz0, hz1, hz2⟩ := parts3M Fnd.infoRow
  obtain ⟨w1, hw1⟩ : ∃ w1, w1 = w.alloc (.cells (bysA k) 28) := ⟨_, rfl⟩
  obtain ⟨w2, hw2⟩ : ∃ w2, w2 = w1.alloc (.cells C 32) := ⟨_, rfl⟩
  have hs1 : w1.heap.size = w.heap.size + 1 := by rw [hw1]; exact Array.size_push _
  have hb1 : Below w.heap.size w w1 := by rw [hw1]; exact (Below.refl _ _).alloc (Nat.le_refl _) _
  have hb2 : Below w1.heap.size w1 w2 := by rw [hw2]; exact (Below.refl _ _).alloc (Nat.le_refl _) _
  have hr1 : w2.heap[w.heap.size]? = some (.cells (bysA k) 28 (0, 0)) := (hb2.block _ (by omega)).trans (by rw [hw1]; exact heap_alloc_new w _)
  have hr2 : w2.heap[w.heap.size + 1]? = some (.cells C 32 (0, 0)) := by rw [hw2, ← hs1]; exact heap_alloc_new w1 _
  have HLD : Hid ((Instr.loadAt 32 (.pointer (some ⟨w.heap.size + 1, 0, none⟩))).run Tryz.prog w2 = .ok (.agg C) w2) := Lib.hid (Fnd.load_all hr2 Tryz.underlying32 rfl (by rw [hCs]; exact Fnd.infoProof))
  have HEN := Lib.hid (end_any C there key val h1 hkp hvp hk hv w2)
  have hEl := endT_le there key val hk hv
  obtain ⟨E, hE⟩ : ∃ E, E = endT there key val := ⟨_, rfl⟩
  rw [← hE] at HEN hEl ⊢
  have HR1 := Lib.hid hr1
  have HR2 := Lib.hid hr2
  have hb02 := hb1.trans (hb2.mono hb1.size)
  have HB2 : Hid (Below w.heap.size w w2) := Lib.hid hb02
  have HSD := Lib.hid (hSd.below hb02)
  have HS := Lib.hid (hS.below hb02)
  have HW1 := Lib.hid hw1
  have HW2 := Lib.hid hw2
  have H0 := Lib.hid h0
  have HKL := Lib.hid hkl
  have HIK : Hid ((Tryz.prog.info? 28).map (·.size) = some (bysA k).size) := Lib.hid (Fnd.infoKey k hkl)
  have HSA := Lib.hid (fun d => sumAt_length (S := S) hSd.1 d)
  have HEL := Lib.hid hEl
  have HSH := Lib.hid (fun j => upto_short (bit k) (sumAt S) S.length E hEl (fun d => sumAt_length (S := S) hSd.1 d) j)
  clear h0 h1 hkp hvp hw1 hw2 hs1 hb1 hb2 hr1 hr2 hb02 hSd hS hkl hCs hk hv hE hEl
  go_enter Tryz.func29, Tryz.ntmps29
  go_wp2_with (rw [← HW1.out, ← HW2.out]; refine l_load rfl _ _ rfl _ HLD.out ?_)
  refine HEN.out.mono ?_
  rintro e w3 ⟨q, c, rfl, how, hb3⟩
  have hgl := lt_of_heap HR2.out
  obtain ⟨w4, hw4⟩ : ∃ w4, w4 = w3.alloc (.cells #[.slice q E.length c] 23) := ⟨_, rfl⟩
  have hb4 : Below w3.heap.size w3 w4 := by rw [hw4]; exact (Below.refl _ _).alloc (Nat.le_refl _) _
  have hb24 : Below w2.heap.size w2 w4 := hb3.trans (hb4.mono hb3.size)
  have hr4 : w4.heap[w.heap.size + 1]? = some (.cells C 32 (0, 0)) := (hb24.block _ hgl).trans HR2.out
  have e4 : w4.cell? ⟨w.heap.size + 1, 0, none⟩ = some (.slice qs S.length cs) := (cell_of_row _ _ _ _ _ _ hr4).trans H0.out
  have HRW : Hid (TxA w4 w2.heap.size (.slice (some ⟨w3.heap.size, 0, none⟩) 1 1) [E]) := Lib.hid ⟨[.slice q E.length c], by rw [hw4]; exact Ow.lit w3 #[.slice q E.length c] 23 1 1 w2.heap.size hb3.size (by decide) rfl, fun i hi => by
    obtain rfl : i = 0 := by simpa using hi
    exact ⟨q, c, rfl, how.below hb4⟩⟩
  have HB4 := Lib.hid hb24
  have HW4 := Lib.hid hw4
  rw [hw4] at e4
  clear how hb3 hb4 hb24 hr4 hw4 hgl HEN HLD
  go_wp2_with fail
  rw [← HW4.out]
  go_loopw [5, 6] (fun o v wr => ∃ (j : Nat) (g cj : Nat), j ≤ S.length ∧ v = .int .i64 ((S.length : Int) - 1 - j) ∧ o = .slice (some ⟨g, 0, none⟩) (j + 1) cj ∧ Hid (TxA wr w2.heap.size (.slice (some ⟨g, 0, none⟩) (j + 1) cj) (upto (bit k) (sumAt S) S.length E j).1) ∧ Hid (Below w2.heap.size w2 wr)) (fun _ v _ => (intOf v + 1).toNat)
  case atStart => exact ⟨0, w3.heap.size, 1, Nat.zero_le _, by congr 1; omega, rfl, HRW, HB4⟩
  case round =>
    obtain ⟨j, g, cj, hj, rfl, rfl, HTX, HB⟩ := hrel
    clear HRW HB4 HW4
    by_cases hlt : j < S.length
    · have hge : (0 : Int) ≤ (S.length : Int) - 1 - j := by omega
      obtain ⟨d, hd⟩ : ∃ d : Nat, d + 1 + j = S.length := ⟨S.length - 1 - j, by omega⟩
      rw [show ((S.length : Int) - 1 - (j : Int)) = (d : Int) by omega]
      obtain ⟨vs, hrow, hvs⟩ := HTX.out
      have hLl := upto_length (bit k) (sumAt S) S.length E j
      rw [hLl] at hrow hvs
      obtain ⟨ql, cl, hvl, hol⟩ := hvs j (by omega)
      rw [upto_last] at hvl hol
      have hMs := HSH.out j _ (upto_mem (bit k) (sumAt S) S.length E j)
      obtain ⟨M, hM⟩ : ∃ M, M = (upto (bit k) (sumAt S) S.length E j).2 := ⟨_, rfl⟩
      rw [← hM] at hvl hol hMs
      obtain ⟨X, hX⟩ : ∃ X, X = sumAt S d := ⟨_, rfl⟩
      have HXL : Hid (X.length = 32) := Lib.hid (by rw [hX]; exact HSA.out d)
      obtain ⟨T, hT⟩ : ∃ T, T = Up.nodeT d (bit k d) (sha M) X := ⟨_, rfl⟩
      have HNT : Hid ((upto (bit k) (sumAt S) S.length E (j + 1)).1 = (upto (bit k) (sumAt S) S.length E j).1 ++ [T]) := Lib.hid (by
        rw [hT, hM, hX, show d = S.length - 1 - j by omega]
        rfl)
      obtain ⟨bp, op, hqe, hbp, hxl1, hxl2, hload⟩ := (HSD.out.below HB.out).load (show d < S.length by omega)
      subst hqe
      have hXe : S.getD d [] = X := by
        rw [hX]
        unfold sumAt
        rw [List.getD_eq_getElem?_getD, List.getD_eq_getElem?_getD, List.getElem?_eq_getElem (show d < S.length by omega)]
        rfl
      rw [hXe] at hload
      have hgb : w2.heap.size ≤ g ∧ g < wr.heap.size := by
        have := hrow.lt g rfl
        exact this
      have hcell : wr.cell? ⟨g, j, none⟩ = some (.slice ql M.length cl) := by
        have hr := Rd.of_ow hrow
        rcases hr.2 with ⟨e, _⟩ | ⟨b, off, cap, e, _, _, _, hc⟩
        · cases e
        · cases e
          have := hc j _ hvl
          rwa [Nat.zero_add] at this
      have hcapj := Rd_cap (Rd.of_ow hrow)
      have HROW := Lib.hid hrow
      have HVS := Lib.hid hvs
      have HOL := Lib.hid hol
      have HLOAD := Lib.hid hload
      have HCELL := Lib.hid hcell
      have HGB := Lib.hid hgb
      have HBI := Lib.hid (fun x => bit_any k HKL.out d (by omega) x)
      have hSumF := HB.out.size
      have HK1 := Lib.hid (Rp.row_le HB.out HR1.out)
      have HC1 := Lib.hid (Rp.row_le HB.out HR2.out)
      have HTT := Lib.hid hT
      have HD := Lib.hid hd
      have hd256 : d < 256 := by omega
      have hjS : j < 256 := by omega
      have hdl : (d : Int) < (S.length : Int) := by omega
      have hdn : d < S.length := by omega
      obtain ⟨bt0, hbt0⟩ : ∃ b, b = bit k d := ⟨_, rfl⟩
      rw [← hbt0] at HBI HTT
      obtain ⟨bz, hbz⟩ : ∃ z : Int, z = if bt0 then 1 else 0 := ⟨_, rfl⟩
      rw [← hbz] at HBI
      have HND := Lib.hid (fun x => node_any d (by omega) bt0 (sha M) X (sha_length M) HXL.out x)
      rw [← hbz, ← HTT.out] at HND
      clear hrow hvs hol hload hcell hgb hT hd hvl hLl hX hXe hxl1 hxl2 hM hbt0 hbz
      go_wp2_with fail
      refine Re.region (fun k => k < wr.heap.size ∧ k ≠ g) 21 [Re.S 4 [] [] Re.free (fun _ => .int .i64 bz) (fun _ _ _ => True), ⟨11, [], [], some (fun _ pj => .slice pj.q 1 1), fun _ pj _ y => Rd y 1 (.slice pj.q 1 1) 1 [.slice ql M.length cl], Re.free, []⟩, Re.S 12 [11] [] Re.free (fun _ => .agg (bysA (sha M))) (fun _ _ _ => True), ⟨18, [], [], some (fun _ pj => .slice pj.q T.length pj.c), fun _ pj _ y => Ow y w2.heap.size 5 1 (.slice pj.q T.length pj.c) T.length (bys T), Re.free, []⟩, ⟨19, [18], [], some (fun _ pj => .slice pj.q 1 1), fun p pj _ y => Rd y 1 (.slice pj.q 1 1) 1 [.slice (p 18).q T.length (p 18).c], Re.free, []⟩, ⟨20, [18, 19], [], some (fun _ pj => .slice pj.q (j + 2) pj.c), fun p pj _ y => Ow y w2.heap.size 23 1 (.slice pj.q (j + 2) pj.c) (j + 2) (vs ++ [.slice (p 18).q T.length (p 18).c]), (· = g), [2, 10, 14, 17]⟩] [18, 20] (by kernel_rfl) (Re.own_one (i := 20) HGB.out.2 (by intro s hs; simp only [List.mem_cons, List.not_mem_nil, or_false] at hs; rcases hs with rfl | rfl | rfl | rfl | rfl | rfl <;> first | exact .inl rfl | exact .inr ⟨rfl, rfl⟩)) (by kernel_rfl) ?_; intro p; simp only [List.take, List.drop]
      iterate 2 (refine Re.rK rfl rfl ?_; intro K hK; apply Exists.intro; refine ⟨?_, ?_⟩; (focus (intro x hx;  go_simp; (first | (fail) | ((try go_bits); (try go_simp); (try rfl))))); go_simp; refine hK _ ?_; clear hK K)
      refine Re.r_load rfl rfl _ _ rfl (.agg (bysA k)) (fun x hx => (PartAt.self _).load (Rp.row_le (early_bel hx (i := 20) rfl (by simp) rfl) HK1.out) Tryz.underlying28 rfl HIK.out) ?_
      intro K hK; go_simp; refine hK _ ?_; clear hK K
      iterate 1 (refine Re.rK rfl rfl ?_; intro K hK; apply Exists.intro; refine ⟨?_, ?_⟩; (focus (intro x hx;  go_simp; (first | (fail) | ((try go_bits); (try go_simp); (try rfl))))); go_simp; refine hK _ ?_; clear hK K)
      refine Re.cK rfl rfl rfl ?_ ?_
      · intro x Fs hx ho hg K hK
        go_wp2_with fail
        refine (HBI.out x).mono ?_
        rintro e x' ⟨rfl, hb⟩
        go_wp2_with fail
        exact hK Rc.dflt x' (Rc.Eff.of_below hb _) (fun _ _ => trivial)
      intro K hK; go_simp; refine hK _ ?_; clear hK K
      have hjj : (j : Int) < (j : Int) + 1 := by omega
      iterate 5 (refine Re.rK rfl rfl ?_; intro K hK; apply Exists.intro; refine ⟨?_, ?_⟩; (focus (intro x hx;  go_simp; (first | (fail) | ((try go_bits); (try go_simp); (try rfl))))); go_simp; refine hK _ ?_; clear hK K)
      clear hjj
      refine Re.r_load rfl rfl _ _ rfl (.slice ql M.length cl) (fun x hx => load_rowU (below_cell (early_bel hx (i := 20) rfl (by simp) rfl) HCELL.out)) ?_
      intro K hK; go_simp; refine hK _ ?_; clear hK K
      refine Re.cK rfl rfl rfl ?_ ?_
      · intro x Fs hx ho hg K hK
        have hlit := Rd_lit x #[.slice ql M.length cl] 23 1 1 rfl (by decide)
        have hlt : x.heap.size < (x.alloc (.cells #[.slice ql M.length cl] 23)).heap.size := lt_of_heap (heap_alloc_new x (.cells #[.slice ql M.length cl] 23))
        go_wp2_with fail
        exact hK ⟨some ⟨x.heap.size, 0, none⟩, 1, undef⟩ _ (Rc.Eff.of_below ((Below.refl _ _).alloc (Nat.le_refl _) _) _) (fun y hy => hlit.at hy.size (fun k hk => by cases hk; exact hy.block _ hlt (.inr (.inr ⟨Nat.le_refl _, hlt⟩))))
      intro K hK; go_simp; refine hK _ ?_; clear hK K
      refine Re.cK rfl rfl rfl ?_ ?_
      · intro x Fs hx ho hg K hK
        have hrl : Rd x 1 (.slice (p 11).q 1 1) 1 [.slice ql M.length cl] := hg.1
        have hbx := same_bel hx HGB.out.1 HB.out.size
        have hol := HOL.out.atM (fun k hk => hx.block k ⟨(HOL.out.lt k hk).2, fun e => Ow_apart HROW.out HOL.out (by decide) k hk (by rw [e]; rfl)⟩)
        have hsum := parts_any (p 11).q 1 [M] x (HS.out.below (HB.out.trans hbx)) ⟨_, hrl, fun i hi => by
          obtain rfl : i = 0 := by simpa using hi
          exact ⟨ql, cl, rfl, Rd.of_ow hol⟩⟩ (by simp; omega)
        have HSU : Hid (Calls Tryz.prog 19 #[.slice (p 11).q 1 1] x fun e w' => e = .returned (.agg (bysA (sha M))) ∧ Below x.heap.size x w') := Lib.hid (by simpa using hsum)
        clear hrl hbx hol hsum hg ho hx
        go_wp2_with fail
        refine HSU.out.mono ?_
        rintro e x' ⟨rfl, hb⟩
        go_wp2_with fail
        exact hK Rc.dflt x' (Rc.Eff.of_below hb _) (fun _ _ => trivial)
      intro K hK; go_simp; refine hK _ ?_; clear hK K
      iterate 1 (refine Re.rK rfl rfl ?_; intro K hK; apply Exists.intro; refine ⟨?_, ?_⟩; (focus (intro x hx;  go_simp; (first | (fail) | ((try go_bits); (try go_simp); (try rfl))))); go_simp; refine hK _ ?_; clear hK K)
      refine Re.r_load rfl rfl _ _ rfl (.slice (some ⟨bp, op, none⟩) S.length cs) (fun x hx => load_rowS ((cell_of_row _ _ _ _ _ _ (Rp.row_le (early_bel hx (i := 20) rfl (by simp) rfl) HC1.out)).trans H0.out)) ?_
      intro K hK; go_simp; refine hK _ ?_; clear hK K
      iterate 2 (refine Re.rK rfl rfl ?_; intro K hK; apply Exists.intro; refine ⟨?_, ?_⟩; (focus (intro x hx;  go_simp; (first | (fail) | ((try go_bits); (try go_simp); (try rfl))))); go_simp; refine hK _ ?_; clear hK K)
      refine Re.r_load rfl rfl _ _ rfl (.agg (bysA X)) (fun x hx => HLOAD.out x (early_bel hx (i := 20) rfl (by simp) rfl)) ?_
      intro K hK; go_simp; refine hK _ ?_; clear hK K
      refine Re.cK rfl rfl rfl ?_ ?_
      · intro x Fs hx ho hg K hK
        have hbs := Nat.le_trans HB.out.size hx.size
        go_wp2_with fail
        refine (HND.out x).mono ?_
        rintro e x' ⟨q', c', rfl, how, hb⟩
        have hlo : ∀ k, (Value.slice q' T.length c').ownBlock = some k → x.heap.size ≤ k ∧ k < x'.heap.size := fun k hk => how.lt k hk
        go_wp2_with fail
        exact hK ⟨q', c', undef⟩ x' (Rc.Eff.of_below hb _) (fun y hy => (how.base_le hbs).atM (fun k hk => hy.block k (hlo k hk).2 (.inr (.inr (hlo k hk)))))
      intro K hK; go_simp; refine hK _ ?_; clear hK K
      refine Re.cK rfl rfl rfl ?_ ?_
      · intro x Fs hx ho hg K hK
        have hlit := Rd_lit x #[.slice (p 18).q T.length (p 18).c] 23 1 1 rfl (by decide)
        have hlt : x.heap.size < (x.alloc (.cells #[.slice (p 18).q T.length (p 18).c] 23)).heap.size := lt_of_heap (heap_alloc_new x (.cells #[.slice (p 18).q T.length (p 18).c] 23))
        go_wp2_with fail
        exact hK ⟨some ⟨x.heap.size, 0, none⟩, 1, undef⟩ _ (Rc.Eff.of_below ((Below.refl _ _).alloc (Nat.le_refl _) _) _) (fun y hy => hlit.at hy.size (fun k hk => by cases hk; exact hy.block _ hlt (.inr (.inr ⟨Nat.le_refl _, hlt⟩))))
      intro K hK; go_simp; refine hK _ ?_; clear hK K
      refine Re.cK rfl rfl rfl ?_ ?_
      · intro x Fs hx ho hg K hK
        have hsrc : Rd x 1 (.slice (p 19).q 1 1) 1 [.slice (p 18).q T.length (p 18).c] := hg.2.1
        have hown2 : Ow x w2.heap.size 23 1 (.slice (some ⟨g, 0, none⟩) (j + 1) cj) (j + 1) vs := HROW.out.atM (fun k hk => by cases hk; exact ho g rfl)
        have hsx : w2.heap.size ≤ x.heap.size := Nat.le_trans HB.out.size hx.size
        refine app_ow3 rfl _ _ 56 56 rfl w2.heap.size 23 i0 (.slice none 0 0) 1 24 Tryz.underlying56 hi hz0 hz1 hz2 (by rfl) _ (j + 1) _ rfl hown2 1 _ rfl (Rd.src Tryz.underlying56 hsrc (by intro u hu; simp at hu; subst hu; rfl)) (by unfold maxLen; omega) (by omega) hsx ?_
        intro v3 w3' how3 hg3 hnew3
        obtain ⟨q3, c3, rfl⟩ := Ow_form how3
        have hg3 : x.grownBy w3' (some g) := hg3
        have hnew3 : ∀ k, (Value.slice q3 (j + 1 + 1) c3).ownBlock = some k → some g = some k ∨ x.heap.size ≤ k := hnew3
        go_wp2_with fail
        refine hK ⟨q3, c3, undef⟩ w3' ⟨hg3.os, hg3.tape, hg3.output, hg3.size, fun k hk hn => hg3.block k hk fun e => hn (.inr (Option.some.inj e))⟩ fun y hy => how3.atM fun k hk => hy.block k (how3.lt k hk).2 (.inr ?_)
        rcases hnew3 k hk with h | h
        · exact .inl (.inr (Option.some.inj h).symm)
        · exact .inr ⟨h, (how3.lt k hk).2⟩
      intro K hK; go_simp; refine hK _ ?_; clear hK K
      refine Re.done fun x Fs hx hg => ?_
      have hT18 : Ow x w2.heap.size 5 1 (.slice (p 18).q T.length (p 18).c) T.length (bys T) := hg.1
      have hR20 : Ow x w2.heap.size 23 1 (.slice (p 20).q (j + 2) (p 20).c) (j + 2) (vs ++ [.slice (p 18).q T.length (p 18).c]) := hg.2.1
      obtain ⟨q20, hq20⟩ : ∃ q20, q20 = (p 20).q := ⟨_, rfl⟩
      obtain ⟨c20, hc20⟩ : ∃ c20, c20 = (p 20).c := ⟨_, rfl⟩
      rw [← hq20, ← hc20] at hR20 ⊢
      have hbx := same_bel hx HGB.out.1 HB.out.size
      obtain ⟨g2, rfl⟩ : ∃ g2, q20 = some ⟨g2, 0, none⟩ := by
        rcases hR20.2 with ⟨_, e⟩ | ⟨g2, cap, cur, fz, e, _⟩
        · omega
        · cases e; exact ⟨g2, rfl⟩
      have hvl : vs.length = j + 1 := by have := HROW.out.1; omega
      have HTX2 : Hid (TxA x w2.heap.size (.slice (some ⟨g2, 0, none⟩) (j + 2) c20) (upto (bit k) (sumAt S) S.length E (j + 1)).1) := Lib.hid (by
        have hLl := upto_length (bit k) (sumAt S) S.length E j
        rw [HNT.out]
        refine ⟨_, by rw [List.length_append, hLl]; exact hR20, fun i hi => ?_⟩
        rw [List.length_append, hLl] at hi
        by_cases hij : i < j + 1
        · obtain ⟨qi, ci, e1, e2⟩ := HVS.out i hij
          have e3 : ((upto (bit k) (sumAt S) S.length E j).1 ++ [T]).getD i [] = (upto (bit k) (sumAt S) S.length E j).1.getD i [] := by
            rw [List.getD_eq_getElem?_getD, List.getD_eq_getElem?_getD, List.getElem?_append_left (by omega)]
          rw [e3]
          refine ⟨qi, ci, ?_, e2.atM (fun k hk => hx.block k ⟨(e2.lt k hk).2, fun e => Ow_apart HROW.out e2 (by decide) k hk (by rw [e]; rfl)⟩)⟩
          rw [List.getElem?_append_left (by omega)]
          exact e1
        · obtain rfl : i = j + 1 := by simp at hi; omega
          have e3 : ((upto (bit k) (sumAt S) S.length E j).1 ++ [T]).getD (j + 1) [] = T := by
            rw [List.getD_eq_getElem?_getD, List.getElem?_append_right (by omega), hLl]
            simp
          rw [e3]
          refine ⟨_, _, ?_, hT18⟩
          rw [List.getElem?_append_right (by omega), hvl]
          simp)
      have HBX : Hid (Below w2.heap.size w2 x) := Lib.hid (HB.out.trans hbx)
      have hd2 := HD.out
      clear hg hx hT18 hR20 hq20 hc20 hbx hvl
      go_wp2_with fail
      refine NoPanic.normal ?_
      go_wp2_with fail
      exact ⟨⟨j + 1, g2, c20, by omega, by congr 1 <;> omega, rfl, HTX2, HBX⟩, by simp only [intOf]; omega⟩
    · have hge : ¬ (0 : Int) ≤ (S.length : Int) - 1 - j := by omega
      obtain rfl : j = S.length := by omega
      have HTX2 := HTX
      have hge2 : ¬ (0 : Int) ≤ -1 := by omega
      rw [show ((S.length : Int) - 1 - (S.length : Int)) = -1 by omega]
      clear hge
      go_wp2_with fail
      go_ret
      have hwl : (wayT (bit k) S E).length = S.length + 1 := by
        show (Up.climb (bit k) (sumAt S) S.length E).length = _
        rw [← upto_all, upto_length]
      refine ⟨some ⟨g, 0, none⟩, cj, by rw [hwl]; rfl, ?_, HB2.out.trans (HB.out.mono HB2.out.size)⟩
      have h := HTX2.out.base_le HB2.out.size
      rw [upto_all] at h
      rw [hwl]
      exact h
end Stn
end Go.Proofs.YtmonkggoilhngaaGreatDoor

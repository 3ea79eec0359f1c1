/- A part of the proof. Plain; no condition. -/
import Derived.Test.YtjkbpdobeljmjaaGreatDoorP29
import Derived.Test.YtjkbpdobeljmjaaGreatDoorP17
import Derived.Test.YtjkbpdobeljmjaaGreatDoorP30
import Derived.Test.YtjkbpdobeljmjaaGreatDoorP15
/- cache.New. No condition. -/
namespace Go.Proofs.YtjkbpdobeljmjaaGreatDoor
set_option linter.unusedVariables false
set_option linter.unusedSimpArgs false
open Go.RowKit Bits Mem Sha
namespace Gr
theorem l_appV {P : Program} {ops : Array Oper} {rest : List Oper} {o : Oper} {a : Act} {w : World} {Q : Exit → Act → World → Prop} (hgd : o.guard = none) (d s : Operand) (t t' : TypeId)
    (ho : o.op = .call { callee := .builtin .append, args := #[d, s], argTypes := #[t, t'] }) (v u : Value) (hd : a.eval d = v) (hs : a.eval s = u) {v' : Value} {w' : World}
    (hr : (Builtin.append_ #[t, t'] o.type #[v, u]).run P w = .ok v' w') (h : wpList P ops Q rest (a.put o.dst v') w') : wpList P ops Q (o :: rest) a w :=
  wpList_plain hgd fun _ hK => by
    unfold Oper.wp execOp
    simp only [ho, resolve, invoke, builtin, Sem.run_bind, Sem.run_pure, Result.andThen_ok, List.map_toArray, List.map_cons, List.map_nil, hd, hs, hr]
    exact hK _ _ h
theorem infoPp : (Tryz.prog.info? 108).map (fun i => (i.zero, i.size, i.bytes)) = some (some (.pointer none), 1, 8) := by kernel_rfl
set_option maxRecDepth 100000 in
set_option maxHeartbeats 4000000 in
theorem cacheNew_any (n : Nat) (h1 : 1 ≤ n) (h2 : n ≤ 8) (w : World) :
    Calls Tryz.prog 12 #[.int .i64 n, .int .i64 4] w fun e w' => ∃ b, e = .returned (.tuple #[.pointer (some ⟨b, 0, none⟩), .int .i64 0]) ∧ w.heap.size ≤ b ∧ Below w.heap.size w w' := by
  obtain ⟨i0, hi, hz0, hz1, hz2⟩ := parts3M infoPp
  have hn1 : ¬ (n : Int) < 1 := by omega
  have hn2 : ¬ (8 : Int) < (n : Int) := by omega
  have hd1 : decide ((n : Int) < 1) = false := decide_eq_false hn1
  have hd2 : decide ((8 : Int) < (n : Int)) = false := decide_eq_false hn2
  go_enter Tryz.func12, Tryz.ntmps12
  go_wp2_with fail
  obtain ⟨w1, hw1⟩ : ∃ w1, w1 = w.alloc (.cells #[.int .i64 4, .slice none 0 0] 107) := ⟨_, rfl⟩
  have hb1 : Below w.heap.size w w1 := by rw [hw1]; exact (Below.refl _ _).alloc (Nat.le_refl _) _
  have HR1 : Hid (w1.heap[w.heap.size]? = some (.cells #[.int .i64 4, .slice none 0 0] 107 (0, 0))) := Lib.hid (by rw [hw1]; exact heap_alloc_new w _)
  have HB1 := Lib.hid hb1
  rw [← hw1]
  clear hw1 hb1 hd1 hd2
  go_loopw [25] (fun iv wr => ∃ (k : Nat) (q : Option Addr) (c : Nat) (xs : List Value), k ≤ n ∧ iv = .int .i64 k ∧ Hid (wr.heap[w.heap.size]? = some (.cells #[.int .i64 4, .slice q k c] 107 (0, 0))) ∧ Hid (Ow wr w.heap.size 108 1 (.slice q k c) k xs) ∧ Hid (Below w.heap.size w wr)) (fun iv _ => n - (intOf iv).toNat)
  case atStart => exact ⟨0, none, 0, [], Nat.zero_le _, rfl, HR1, Lib.hid (Ow.nil _ _ _ _), HB1⟩
  case round =>
    obtain ⟨k, q, c, xs, hk, rfl, HR, HO, HB⟩ := hrel
    by_cases hlt : k < n
    · have hltI : (k : Int) < (n : Int) := by omega
      have c1 : wr.cell? ⟨w.heap.size, 1, none⟩ = some (.slice q k c) := (cell_of_row _ _ _ _ _ _ HR.out).trans rfl
      have hszr := lt_of_heap HR.out
      have hbr := HB.out.size
      obtain ⟨wa, hwa⟩ : ∃ wa, wa = ((wr.alloc (.map #[] 0)).alloc (.cells #[.map (some wr.heap.size), .slice none 0 0, .int .i64 0, .int .i64 0] 111)).alloc (.cells #[.pointer (some ⟨wr.heap.size + 1, 0, none⟩)] 108) := ⟨_, rfl⟩
      have hba : Below wr.heap.size wr wa := by rw [hwa]; exact (((Below.refl _ _).alloc (Nat.le_refl _) _).alloc (by simp) _).alloc (by simp; omega) _
      have hrd : Rd wa 1 (.slice (some ⟨wr.heap.size + 1 + 1, 0, none⟩) 1 1) 1 [.pointer (some ⟨wr.heap.size + 1, 0, none⟩)] := by
        have := Rd_lit ((wr.alloc (.map #[] 0)).alloc (.cells #[.map (some wr.heap.size), .slice none 0 0, .int .i64 0, .int .i64 0] 111)) #[.pointer (some ⟨wr.heap.size + 1, 0, none⟩)] 108 1 1 rfl (by decide)
        rw [World.size_alloc, World.size_alloc, ← hwa] at this
        exact this
      have hoa := HO.out.below hba
      have hra := Rp.row_le hba HR.out
      have hsa := hba.size
      have hne : (Value.slice q k c).ownBlock ≠ some w.heap.size := fun e => by
        obtain ⟨_, _, h3⟩ := HO.out.typedG e
        exact ne_typedG h3 HR.out (by decide) rfl
      obtain ⟨v3, w3, hr3, how3, hg3, hn3⟩ := run_app_ow3 (P := Tryz.prog) (ty := 105) Tryz.underlying105 hi hz0 hz1 hz2 rfl hoa (Rd.src Tryz.underlying105 hrd (by simp [Value.oneCell'])) (by unfold maxLen; omega) (by omega) (by omega)
      obtain ⟨q3, c3, rfl⟩ := Ow_form how3
      have hr33 : w3.heap[w.heap.size]? = some (.cells #[.int .i64 4, .slice q k c] 107 (0, 0)) := (hg3.block _ (lt_of_heap hra) (fun e => hne e.symm)).trans hra
      have c3' : w3.cell? ⟨w.heap.size, 1, none⟩ = some (.slice q k c) := (cell_of_row _ _ _ _ _ _ hr33).trans rfl
      have f3 : w3.frozen? ⟨w.heap.size, 1, none⟩ = false := frozen_of_row _ _ _ _ _ hr33
      have HR33 := Lib.hid hr33
      have HO3 := Lib.hid how3
      have HB3 : Hid (Below w.heap.size w w3) := Lib.hid ((HB.out.trans (hba.mono hbr)).grown hg3 (by omega) (fun j hj => (hoa.lt j hj).1))
      have HRUN := Lib.hid hr3
      have HWA := Lib.hid hwa
      have hl3 := lt_of_heap hr33
      clear hwa hba hrd hoa hra hsa hr3 how3 hg3 hn3 hr33
      go_wp2_with (first | (refine l_makeMap rfl 109 rfl ?_) | (at_builtin; rw [← HWA.out]; refine l_appV rfl _ _ 105 105 rfl _ _ rfl rfl HRUN.out ?_))
      have hset : (w3.setCell ⟨w.heap.size, 1, none⟩ (.slice q3 (k + 1) c3)).heap[w.heap.size]? = some (.cells #[.int .i64 4, .slice q3 (k + 1) c3] 107 (0, 0)) := heap_setCell_same _ _ _ _ _ _ HR33.out
      have hgr := grown_setCell w3 w.heap.size 1 (.slice q3 (k + 1) c3)
      refine ⟨⟨k + 1, q3, c3, _, by omega, by go_num, Lib.hid hset, Lib.hid (HO3.out.kpq fun j hj => hgr.block j (HO3.out.lt j hj).2 fun e => ?_), Lib.hid (HB3.out.grown hgr HB3.out.size fun j hj => by cases hj; exact Nat.le_refl _)⟩, by simp [intOf]; omega⟩
      obtain ⟨_, _, h3⟩ := HO3.out.typedG hj
      exact ne_typedG h3 HR33.out (by decide) (Option.some.inj e)
    · obtain rfl : k = n := by omega
      go_wp2_with fail
      go_ret2
      exact ⟨w.heap.size, rfl, Nat.le_refl _, HB.out⟩
end Gr
end Go.Proofs.YtjkbpdobeljmjaaGreatDoor

/- host.New: a host without tenants. Conditions: the tables lie. -/
namespace Go.Proofs.YtjkbpdobeljmjaaGreatDoor
set_option linter.unusedVariables false
set_option linter.unusedSimpArgs false
open Go.RowKit Bits Mem Sha
namespace Gr
open Stn (PartAt info32r)
open Ref (load_whole)
open Ten (TabAt newTab_any)
open Cad (SchedAt newCad_any)
def hostC (tb sb ub cb : Nat) (p m u : Nat) : Array Value := #[.pointer (some ⟨tb, 0, none⟩), .pointer (some ⟨sb, 0, none⟩), .pointer (some ⟨ub, 0, none⟩), .pointer (some ⟨cb, 0, none⟩), .map (some p), .map (some m), .map (some u)]
def HostAt (w : World) (base hb : Nat) (pl now : Int) (seed : List UInt8) (D : List (List UInt8)) : Prop :=
  ∃ tb sb ub cb p m u q1 c1 q2 c2, w.heap[hb]? = some (.cells (hostC tb sb ub cb p m u) 76 (0, 0)) ∧ w.heap[tb]? = some (.cells #[.int .i64 pl, .slice none 0 0] 101 (0, 0)) ∧ w.heap[sb]? = some (.cells #[.int .i64 now, .slice none 0 0] 104 (0, 0)) ∧ SupAt w ub base seed q1 c1 q2 c2 D ∧ base ≤ hb ∧ base ≤ sb
set_option maxRecDepth 100000 in
set_option maxHeartbeats 4000000 in
theorem hostNew_any (seed : List UInt8) (hs : seed.length = 32) (n now base : Nat) (h1 : 1 ≤ n) (h2 : n ≤ 8) (h3 : now ≤ 9223372036854775807) (w : World) (hT : Tb base w) :
    Calls Tryz.prog 4 #[.agg (bysA seed), .int .i64 n, .int .i64 now] w fun e w' => ∃ hb, e = .returned (.tuple #[.pointer (some ⟨hb, 0, none⟩), .int .i64 0]) ∧ HostAt w' base hb n now seed [entry 0] ∧ Below base w w' := by
  obtain ⟨w1, hw1⟩ : ∃ w1, w1 = w.alloc (.cells (bysA seed) 22) := ⟨_, rfl⟩
  have hb1 : Below w.heap.size w w1 := by rw [hw1]; exact (Below.refl _ _).alloc (Nat.le_refl _) _
  have hr1 : w1.heap[w.heap.size]? = some (.cells (bysA seed) 22 (0, 0)) := by rw [hw1]; exact heap_alloc_new w _
  have HB1 := Lib.hid hb1
  have HR1 := Lib.hid hr1
  have HW1 := Lib.hid hw1
  have HT := Lib.hid hT
  have HSL := Lib.hid hs
  clear hw1 hb1 hr1 hT hs
  go_enter Tryz.func4, Tryz.ntmps4
  go_upto_region 1 with fail
  rw [← HW1.out]
  go_wp2_with fail
  refine (newTab_any n (by omega) (by omega) w1).mono ?_
  rintro e w2 ⟨rfl, hw2⟩
  have hb2 : Below w1.heap.size w1 w2 := by rw [hw2]; exact (Below.refl _ _).alloc (Nat.le_refl _) _
  have HR2 : Hid (w2.heap[w1.heap.size]? = some (.cells #[.int .i64 n, .slice none 0 0] 101 (0, 0))) := Lib.hid (by rw [hw2]; exact heap_alloc_new w1 _)
  have HR21 := Lib.hid (Rp.row_le hb2 HR1.out)
  have HB2 := Lib.hid (HB1.out.trans (hb2.mono HB1.out.size))
  obtain ⟨tb, htb⟩ : ∃ tb, tb = w1.heap.size := ⟨_, rfl⟩
  have htbw : w.heap.size ≤ tb := by rw [htb]; exact HB1.out.size
  rw [← htb] at HR2 ⊢
  clear hw2 hb2 htb
  go_wp2_with fail
  refine (newCad_any now w2).mono ?_
  rintro e w3 ⟨rfl, hw3⟩
  have hb3 : Below w2.heap.size w2 w3 := by rw [hw3]; exact (Below.refl _ _).alloc (Nat.le_refl _) _
  have HR3 : Hid (w3.heap[w2.heap.size]? = some (.cells #[.int .i64 now, .slice none 0 0] 104 (0, 0))) := Lib.hid (by rw [hw3]; exact heap_alloc_new w2 _)
  have HR32 := Lib.hid (Rp.row_le hb3 HR2.out)
  have HR31 := Lib.hid (Rp.row_le hb3 HR21.out)
  have HB3 := Lib.hid (HB2.out.trans (hb3.mono HB2.out.size))
  obtain ⟨sb, hsb⟩ : ∃ sb, sb = w2.heap.size := ⟨_, rfl⟩
  have hsbw : w.heap.size ≤ sb := by rw [hsb]; exact HB2.out.size
  rw [← hsb] at HR3 ⊢
  clear hw3 hb3 hsb
  go_wp2_with fail
  refine (cacheNew_any n h1 h2 w3).mono ?_
  rintro e w4 ⟨cb, rfl, hcb, hb4⟩
  have HR43 := Lib.hid (Rp.row_le hb4 HR3.out)
  have HR42 := Lib.hid (Rp.row_le hb4 HR32.out)
  have HB4 := Lib.hid (HB3.out.trans (hb4.mono HB3.out.size))
  have HLD := Lib.hid (load_whole (Rp.row_le hb4 HR31.out) HSL.out)
  clear hb4 hcb
  go_wp2_with (first | (refine l_loadP rfl _ _ rfl (.pointer (some ⟨w.heap.size, 0, none⟩)) rfl (.agg (bysA seed)) HLD.out ?_))
  refine (supNew_any seed HSL.out w4).mono ?_
  rintro e w5 ⟨rfl, hw5⟩
  obtain ⟨ub, hub⟩ : ∃ ub, ub = w4.heap.size + 1 := ⟨_, rfl⟩
  have hb5 : Below w4.heap.size w4 w5 := by rw [hw5]; exact ((Below.refl _ _).alloc (Nat.le_refl _) _).alloc (by simp) _
  have HR5 : Hid (w5.heap[ub]? = some (.cells (supC seed (.pointer none) (.slice none 0 0) (.slice none 0 0)) 117 (0, 0))) := Lib.hid (by rw [hw5, hub]; exact Rg.heap_alloc_at _ _ _ (by simp))
  have HR53 := Lib.hid (Rp.row_le hb5 HR43.out)
  have HR52 := Lib.hid (Rp.row_le hb5 HR42.out)
  have HB5 := Lib.hid (HB4.out.trans (hb5.mono HB4.out.size))
  have hubw : w.heap.size ≤ ub := by rw [hub]; have := HB4.out.size; omega
  rw [← hub]
  clear hw5 hb5 hub
  obtain ⟨w6, hw6⟩ : ∃ w6, w6 = (((w5.alloc (.map #[] 0)).alloc (.map #[] 0)).alloc (.map #[] 0)).alloc (.cells (hostC tb sb ub cb w5.heap.size (w5.heap.size + 1) (w5.heap.size + 1 + 1)) 76) := ⟨_, rfl⟩
  have hb6 : Below w5.heap.size w5 w6 := by rw [hw6]; exact ((((Below.refl _ _).alloc (Nat.le_refl _) _).alloc (by simp) _).alloc (by simp; omega) _).alloc (by simp; omega) _
  obtain ⟨hb, hhb⟩ : ∃ hb, hb = w5.heap.size + 1 + 1 + 1 := ⟨_, rfl⟩
  have HR6 : Hid (w6.heap[hb]? = some (.cells (hostC tb sb ub cb w5.heap.size (w5.heap.size + 1) (w5.heap.size + 1 + 1)) 76 (0, 0))) := Lib.hid (by rw [hw6, hhb]; exact Rg.heap_alloc_at _ _ _ (by simp))
  have HR65 := Lib.hid (Rp.row_le hb6 HR5.out)
  have HR63 := Lib.hid (Rp.row_le hb6 HR53.out)
  have HR62 := Lib.hid (Rp.row_le hb6 HR52.out)
  have HB6 := Lib.hid (HB5.out.trans (hb6.mono HB5.out.size))
  have HW6 : Hid (w6 = (((w5.alloc (.map #[] 0)).alloc (.map #[] 0)).alloc (.map #[] 0)).alloc (.cells #[.pointer (some ⟨tb, 0, none⟩), .pointer (some ⟨sb, 0, none⟩), .pointer (some ⟨ub, 0, none⟩), .pointer (some ⟨cb, 0, none⟩), .map (some w5.heap.size), .map (some (w5.heap.size + 1)), .map (some (w5.heap.size + 1 + 1))] 76)) := Lib.hid hw6
  have hhbw : w.heap.size ≤ hb := by rw [hhb]; have := HB5.out.size; omega
  have HHB := Lib.hid hhb
  have c2 : w6.cell? ⟨hb, 2, none⟩ = some (.pointer (some ⟨ub, 0, none⟩)) := (cell_of_row _ _ _ _ _ _ HR6.out).trans rfl
  clear hw6 hb6 hhb
  go_upto_region 11 with (first | (refine l_makeMap rfl 72 rfl ?_) | (refine l_makeMap rfl 73 rfl ?_) | (refine l_makeMap rfl 74 rfl ?_))
  rw [← HW6.out, ← HHB.out]
  have hT6 := HT.out.below (HB6.out.mono HT.out.le)
  have hbl := HT.out.le
  have hsup : SupAt w6 ub base seed none 0 none 0 [] := ⟨⟨⟨HR65.out, (supC_at HSL.out _ _ _).2.2, by decide⟩, (fun x hx => by cases hx), Ow.nil _ _ _ _⟩, ⟨[], Ow.nil _ _ _ _⟩, HSL.out, by omega⟩
  have HSE := Lib.hid (seal_nil ub base seed none none 0 0 [] w6 hT6 hsup (by decide))
  have HTY : Hid (∀ k, Tn ub (.slice none ([] : List (List UInt8)).length 0) (.slice none ([] : List (List UInt8)).length 0) k → base ≤ k ∧ ∃ C t f, w6.heap[k]? = some (.cells C t f) ∧ (t = 117 ∨ t = 42 ∨ t = 22)) := Lib.hid (fun k hk => hsup.typed hk)
  clear hT6 hsup
  go_wp2_with fail
  refine HSE.out.mono ?_
  rintro e w7 ⟨v, p1, d1, p2, d2, rfl, hs7, hk7⟩
  have HS7 := Lib.hid hs7
  have HK7 := Lib.hid hk7
  clear hs7 hk7
  go_wp2_with fail
  go_ret2
  have keep : ∀ {g : Nat} {C : Array Value} {t : TypeId}, w6.heap[g]? = some (.cells C t (0, 0)) → t ≠ 117 → t ≠ 42 → t ≠ 22 → w7.heap[g]? = some (.cells C t (0, 0)) := fun {g C t} h n1 n2 n3 => (HK7.out.block g (lt_of_heap h) fun ht => by
    obtain ⟨_, C', t', f, h1, h2⟩ := HTY.out _ ht
    rw [h] at h1
    cases h1
    rcases h2 with h2 | h2 | h2
    · exact n1 h2
    · exact n2 h2
    · exact n3 h2).trans h
  refine ⟨hb, rfl, ⟨tb, sb, ub, cb, _, _, _, p1, d1, p2, d2, keep HR6.out (by decide) (by decide) (by decide), keep HR62.out (by decide) (by decide) (by decide), keep HR63.out (by decide) (by decide) (by decide), HS7.out, by omega, by omega⟩, (HB6.out.mono HT.out.le).trans (HK7.out.below (by have := HB6.out.size; omega) fun k hk => (HTY.out _ hk).1)⟩
end Gr
end Go.Proofs.YtjkbpdobeljmjaaGreatDoor

/- host's publish and Tick, without tenants. Conditions: the tables lie. -/
namespace Go.Proofs.YtjkbpdobeljmjaaGreatDoor
set_option linter.unusedVariables false
set_option linter.unusedSimpArgs false
open Go.RowKit Bits Mem Sha
namespace Gr
open Ten (TabAt idsT idsT_any)
open Cad (SchedAt tick_any dues strsC)
theorem SupAt.at {w w' : World} {ub base : Nat} {seed : List UInt8} {q1 q2 : Option Addr} {c1 c2 : Nat} {D : List (List UInt8)} (h : SupAt w ub base seed q1 c1 q2 c2 D) (hk : ∀ k, Tn ub (.slice q1 D.length c1) (.slice q2 D.length c2) k → w'.heap[k]? = w.heap[k]?) : SupAt w' ub base seed q1 c1 q2 c2 D := by
  obtain ⟨xs, ho⟩ := h.2.1
  exact ⟨⟨⟨(hk ub (.inl rfl)).trans h.row, h.1.1.2⟩, h.1.2.1, h.1.2.2.kpq fun k hk' => hk k (.inr (.inr hk'))⟩, ⟨xs, ho.kpq fun k hk' => hk k (.inr (.inl hk'))⟩, h.2.2.1, h.2.2.2⟩
theorem SupAt.below {w w' : World} {ub base : Nat} {seed : List UInt8} {q1 q2 : Option Addr} {c1 c2 : Nat} {D : List (List UInt8)} (h : SupAt w ub base seed q1 c1 q2 c2 D) (hb : Below w.heap.size w w') : SupAt w' ub base seed q1 c1 q2 c2 D :=
  h.at fun k hk => by
    obtain ⟨_, C, t, f, h1, _⟩ := h.typed hk
    exact hb.block k (lt_of_heap h1)
theorem SupAt.keep {w w' : World} {ub base : Nat} {seed : List UInt8} {q1 q2 : Option Addr} {c1 c2 : Nat} {D : List (List UInt8)} (h : SupAt w ub base seed q1 c1 q2 c2 D) (hk : Kp (Tn ub (.slice q1 D.length c1) (.slice q2 D.length c2)) w w') {g : Nat} {C : Array Value} {t : TypeId} (hg : w.heap[g]? = some (.cells C t (0, 0))) (n1 : t ≠ 117) (n2 : t ≠ 42) (n3 : t ≠ 22) : w'.heap[g]? = some (.cells C t (0, 0)) :=
  (hk.block g (lt_of_heap hg) fun ht => by
    obtain ⟨_, C', t', f, h1, h2⟩ := h.typed ht
    rw [hg] at h1
    cases h1
    rcases h2 with h2 | h2 | h2
    · exact n1 h2
    · exact n2 h2
    · exact n3 h2).trans hg
theorem ids0 (tb : Nat) (pl st : Int) (w : World) (h : w.heap[tb]? = some (.cells #[.int .i64 pl, .slice none 0 0] 101 (0, 0))) :
    Calls Tryz.prog 42 #[.pointer (some ⟨tb, 0, none⟩), .int .i64 st] w fun e w' => ∃ qo co, e = .returned (.slice qo 0 co) ∧ Below w.heap.size w w' := by
  refine (idsT_any tb (tb + 1) none 0 pl [] st w ⟨h, by omega, Ow.nil _ _ _ _⟩ (by decide)).mono ?_
  rintro e w' ⟨qo, co, rfl, _, hb⟩
  exact ⟨qo, co, rfl, hb⟩
set_option maxRecDepth 100000 in
set_option maxHeartbeats 4000000 in
theorem publish_any (hb base : Nat) (pl now : Int) (seed : List UInt8) (D : List (List UInt8)) (w : World) (hT : Tb base w) (h : HostAt w base hb pl now seed D) (hD : D.length ≤ 900) :
    Calls Tryz.prog 20 #[.pointer (some ⟨hb, 0, none⟩)] w fun e w' => e = .returned (.tuple #[]) ∧ HostAt w' base hb pl now seed (D ++ [entry D.length]) ∧ Below base w w' := by
  obtain ⟨tb, sb, ub, cb, p, m, u, q1, c1, q2, c2, hrow, htab, hsch, hsup, hhb, hsbb⟩ := h
  obtain ⟨w1, hw1⟩ : ∃ w1, w1 = w.alloc (.map #[] 0) := ⟨_, rfl⟩
  have hb1 : Below w.heap.size w w1 := by rw [hw1]; exact (Below.refl _ _).alloc (Nat.le_refl _) _
  have hr1 := Rp.row_le hb1 hrow
  have c5 : w1.cell? ⟨hb, 5, none⟩ = some (.map (some m)) := (cell_of_row _ _ _ _ _ _ hr1).trans rfl
  have f5 : w1.frozen? ⟨hb, 5, none⟩ = false := frozen_of_row _ _ _ _ _ hr1
  obtain ⟨w2, hw2⟩ : ∃ w2, w2 = w1.setCell ⟨hb, 5, none⟩ (.map (some w.heap.size)) := ⟨_, rfl⟩
  have hk12 : Kp (fun k => k = hb) w1 w2 := by rw [hw2]; exact Kp.setCell _ _ _ _
  have hr2 : w2.heap[hb]? = some (.cells (hostC tb sb ub cb p w.heap.size u) 76 (0, 0)) := by rw [hw2]; exact heap_setCell_same _ _ _ _ _ _ hr1
  have HW1 := Lib.hid hw1
  have HW2 := Lib.hid hw2
  have hk2 : Kp (fun k => k = hb) w w2 := Kp.lower (Kp.of_below hb1) hk12 (fun k _ e => e)
  have other : ∀ {g : Nat} {C : Array Value} {t : TypeId}, w.heap[g]? = some (.cells C t (0, 0)) → t ≠ 76 → w2.heap[g]? = some (.cells C t (0, 0)) := fun {g C t} hg hn => (hk2.block g (lt_of_heap hg) (fun e => ne_typedG hg hrow hn e)).trans hg
  have hs2 : SupAt w2 ub base seed q1 c1 q2 c2 D := hsup.at fun k hk => by
    obtain ⟨_, C, t, f, h1, h2⟩ := hsup.typed hk
    refine hk2.block k (lt_of_heap h1) (fun e => ne_typedG h1 hrow ?_ e)
    rcases h2 with rfl | rfl | rfl <;> decide
  have hT2 := hT.kp hk2 (fun k e => by have e : k = hb := e; omega)
  have hB2 : Below base w w2 := hk2.below hT.le (fun k e => by have e : k = hb := e; omega)
  obtain ⟨lb, hlb⟩ : ∃ lb, lb = w2.heap.size := ⟨_, rfl⟩
  obtain ⟨w3, hw3⟩ : ∃ w3, w3 = w2.alloc (.cells #[.int .i64 1, .int .i64 2, .int .i64 3] 3) := ⟨_, rfl⟩
  have hb3 : Below w2.heap.size w2 w3 := by rw [hw3]; exact (Below.refl _ _).alloc (Nat.le_refl _) _
  have HL3 : Hid (w3.heap[lb]? = some (.cells #[.int .i64 1, .int .i64 2, .int .i64 3] 3 (0, 0))) := Lib.hid (by rw [hw3, hlb]; exact heap_alloc_new w2 _)
  have HR3 := Lib.hid (Rp.row_le hb3 hr2)
  have HT3 := Lib.hid (Rp.row_le hb3 (other htab (by decide)))
  have HC3 := Lib.hid (Rp.row_le hb3 (other hsch (by decide)))
  have HS3 := Lib.hid (hs2.below hb3)
  have HTB := Lib.hid (hT2.below (hb3.mono hT2.le))
  have HB3 := Lib.hid (hB2.trans (hb3.mono hT2.le))
  have HW3 := Lib.hid hw3
  have HLB := Lib.hid hlb
  have hle3 := HTB.out.le
  clear hT hrow htab hsch hsup hw1 hb1 hr1 hw2 hk12 hr2 hk2 hs2 hT2 hB2 hlb hw3 hb3 other
  go_enter Tryz.func20, Tryz.ntmps20
  go_upto_region 2 with (refine l_makeMap rfl 73 rfl ?_; refine Hid.out ?_)
  rw [← HW1.out]
  refine Lib.hid ?_
  go_upto_region 2 with fail
  rw [← HW2.out]
  go_wp2_with fail
  rw [← HW3.out, ← HLB.out]
  clear HW1 HW2 c5 f5
  go_loopw [2, 14] (fun l iv wr => ∃ k : Nat, k ≤ 3 ∧ l = .slice none 0 0 ∧ iv = .int .i64 k ∧ Hid (Below w3.heap.size w3 wr)) (fun _ iv _ => 3 - (intOf iv).toNat)
  case atStart => exact ⟨0, by omega, rfl, rfl, Lib.hid (Below.refl _ _)⟩
  case round =>
    obtain ⟨k, hk, rfl, rfl, HB⟩ := hrel
    have HR := Lib.hid (Rp.row_le HB.out HR3.out)
    by_cases hlt : k < 3
    · have hltI : (k : Int) < 3 := by omega
      have cl : wr.cell? ⟨lb, k, none⟩ = some (.int .i64 ((k : Int) + 1)) := by
        rw [cell_of_row _ _ _ _ _ _ (Rp.row_le HB.out HL3.out)]
        match k, hlt with
        | 0, _ => rfl
        | 1, _ => rfl
        | 2, _ => rfl
      have c0 : wr.cell? ⟨hb, 0, none⟩ = some (.pointer (some ⟨tb, 0, none⟩)) := (cell_of_row _ _ _ _ _ _ HR.out).trans rfl
      have HI := Lib.hid (ids0 tb pl ((k : Int) + 1) wr (Rp.row_le HB.out HT3.out))
      go_wp2_with fail
      refine HI.out.mono ?_
      rintro e w5 ⟨qo, co, rfl, hb5⟩
      have HB5 := Lib.hid (HB.out.trans (hb5.mono HB.out.size))
      clear hb5
      go_wp2_with fail
      go_loopw [2, 25] (fun l iv wq => l = .slice none 0 0 ∧ iv = .int .i64 0 ∧ wq = w5) (fun _ _ _ => 1)
      case atStart => exact ⟨rfl, rfl, rfl⟩
      case round =>
        obtain ⟨rfl, rfl, rfl⟩ := hrel
        go_wp2_with fail
        exact ⟨⟨k + 1, by omega, rfl, by go_num, HB5⟩, by simp [intOf]; omega⟩
    · obtain rfl : k = 3 := by omega
      have c2' : wr.cell? ⟨hb, 2, none⟩ = some (.pointer (some ⟨ub, 0, none⟩)) := (cell_of_row _ _ _ _ _ _ HR.out).trans rfl
      have HS := Lib.hid (HS3.out.below HB.out)
      have HSE := Lib.hid (seal_nil ub base seed q1 q2 c1 c2 D wr (HTB.out.below (HB.out.mono hle3)) HS.out hD)
      have HTR := Lib.hid (Rp.row_le HB.out HT3.out)
      have HCR := Lib.hid (Rp.row_le HB.out HC3.out)
      go_wp2_with fail
      refine HSE.out.mono ?_
      rintro e w7 ⟨v, p1, d1, p2, d2, rfl, hs7, hk7⟩
      have HS7 := Lib.hid hs7
      have HK7 := Lib.hid hk7
      clear hs7 hk7
      go_wp2_with fail
      refine bodyPost_end (results_none rfl _ _ _) rfl ⟨rfl, ⟨tb, sb, ub, cb, _, _, _, p1, d1, p2, d2, HS.out.keep HK7.out HR.out (by decide) (by decide) (by decide), HS.out.keep HK7.out HTR.out (by decide) (by decide) (by decide), HS.out.keep HK7.out HCR.out (by decide) (by decide) (by decide), HS7.out, hhb, hsbb⟩, ?_⟩
      exact (HB3.out.trans (HB.out.mono hle3)).trans (HK7.out.below (by have := HB.out.size; omega) fun k hk => (HS.out.typed hk).1)
set_option maxRecDepth 100000 in
set_option maxHeartbeats 4000000 in
theorem tickH_any (hb base : Nat) (pl now : Int) (seed : List UInt8) (D : List (List UInt8)) (w : World) (hT : Tb base w) (h : HostAt w base hb pl now seed D) (hD : D.length ≤ 900) (hn0 : 0 ≤ now) (hn1 : now < 9223372036854775807) :
    Calls Tryz.prog 6 #[.pointer (some ⟨hb, 0, none⟩)] w fun e w' => e = .returned (.int .i64 0) ∧ HostAt w' base hb pl (now + 1) seed (D ++ [entry D.length]) ∧ Below base w w' := by
  obtain ⟨tb, sb, ub, cb, p, m, u, q1, c1, q2, c2, hrow, htab, hsch, hsup, hhb, hsbb⟩ := h
  have c1' : w.cell? ⟨hb, 1, none⟩ = some (.pointer (some ⟨sb, 0, none⟩)) := (cell_of_row _ _ _ _ _ _ hrow).trans rfl
  have HTI := Lib.hid (tick_any sb (sb + 1) none 0 now [] w ⟨hsch, by omega, Ow.nil _ _ _ _⟩ (by decide) hn0 hn1 (fun x hx => by cases hx))
  have HR := Lib.hid hrow
  have HTA := Lib.hid htab
  have HSC := Lib.hid hsch
  have HSU := Lib.hid hsup
  have HT := Lib.hid hT
  clear hT hrow htab hsch hsup
  go_enter Tryz.func6, Tryz.ntmps6
  go_wp2_with fail
  refine HTI.out.mono ?_
  rintro e w2 ⟨qo, co, rfl, hs2, _, hk2⟩
  have hk : Kp (fun k => k = sb) w w2 := hk2.mono' fun k e => e.resolve_right (fun h => by cases h)
  have other : ∀ {g : Nat} {C : Array Value} {t : TypeId}, w.heap[g]? = some (.cells C t (0, 0)) → t ≠ 104 → w2.heap[g]? = some (.cells C t (0, 0)) := fun {g C t} hg hn => (hk.block g (lt_of_heap hg) (fun e => ne_typedG hg HSC.out hn e)).trans hg
  have hs : SupAt w2 ub base seed q1 c1 q2 c2 D := HSU.out.at fun k hk' => by
    obtain ⟨_, C, t, f, h1, h2⟩ := HSU.out.typed hk'
    refine hk.block k (lt_of_heap h1) (fun e => ne_typedG h1 HSC.out ?_ e)
    rcases h2 with rfl | rfl | rfl <;> decide
  have hh2 : HostAt w2 base hb pl (now + 1) seed D := ⟨tb, sb, ub, cb, p, m, u, q1, c1, q2, c2, other HR.out (by decide), other HTA.out (by decide), hs2.1, hs, hhb, hsbb⟩
  have HP := Lib.hid (publish_any hb base pl (now + 1) seed D w2 (HT.out.kp hk (fun k e => by have e : k = sb := e; omega)) hh2 hD)
  have HB2 : Hid (Below base w w2) := Lib.hid (hk.below HT.out.le (fun k e => by have e : k = sb := e; omega))
  have hz : (dues ([] : List Cad.One)).length = 0 := rfl
  rw [hz]
  clear hs2 hk2 hk other hs hh2
  go_wp2_with fail
  go_loopw [24] (fun iv wq => iv = .int .i64 0 ∧ wq = w2) (fun _ _ => 1)
  case atStart => exact ⟨rfl, rfl⟩
  case round =>
    obtain ⟨rfl, rfl⟩ := hrel
    go_wp2_with fail
    refine HP.out.mono ?_
    rintro e w3 ⟨rfl, hh3, hb3⟩
    have HH3 := Lib.hid hh3
    have HB3 := Lib.hid hb3
    clear hh3 hb3
    go_wp2_with fail
    go_ret
    exact ⟨rfl, HH3.out, HB2.out.trans HB3.out⟩
end Gr
end Go.Proofs.YtjkbpdobeljmjaaGreatDoor

/- Requests for a growth, their answers, as cells. Plain; no condition. -/
namespace Go.Proofs.YtjkbpdobeljmjaaGreatDoor
set_option linter.unusedVariables false
set_option linter.unusedSimpArgs false
open Go.RowKit Bits Mem Sha
namespace Gr
open Stn (PartAt info32r)
open Ref (RdL OwL All32 treeS subS)
def reqA (f t : Int) : Array Value := #[.int .i64 12, .slice none 0 0] ++ (bysA (List.replicate 64 0) ++ #[.int .i64 0, .int .i64 0, .int .i64 0, .int .i64 0, .slice none 0 0, .slice none 0 0, .int .i64 f, .int .i64 t, .slice none 0 0])
theorem req_built (f t : Int) : Tryz.prog.built 57 [(0, .int .i64 12), (7, .int .i64 f), (8, .int .i64 t)] = some (reqA f t) := by kernel_rfl
theorem req_at (f t : Int) : (reqA f t)[0]? = some (.int .i64 12) ∧ (reqA f t)[72]? = some (.int .i64 f) ∧ (reqA f t)[73]? = some (.int .i64 t) := ⟨by kernel_rfl, by kernel_rfl, by kernel_rfl⟩
theorem req_size (f t : Int) : (reqA f t).size = 75 := by kernel_rfl
theorem infoReq (f t : Int) : (Tryz.prog.info? 57).map (·.size) = some (reqA f t).size := by rw [req_size]; kernel_rfl
noncomputable def ans0 : Array Value := (Tryz.zeroCells50).setIfInBounds 0 (.int .i64 12)
theorem ans_built : Tryz.prog.built 50 [(0, .int .i64 12)] = some ans0 := by kernel_rfl
theorem ans0_size : ans0.size = 646 := by decide +kernel
theorem ans0_one : ans0.all (·.oneCell') = true := by decide +kernel
theorem ans0_at : ans0[0]? = some (.int .i64 12) ∧ ans0[1]? = some (.int .i64 0) := ⟨by kernel_rfl, by kernel_rfl⟩
theorem infoAns {C : Array Value} (h : C.size = 646) : (Tryz.prog.info? 50).map (·.size) = some C.size := by rw [h]; kernel_rfl
structure GAns (A : Array Value) (q : Option Addr) (c n : Nat) (R : List UInt8) : Prop where
  size : A.size = 646
  one : A.all (·.oneCell') = true
  kind : A[0]? = some (.int .i64 12)
  err : A[1]? = some (.int .i64 0)
  log : PartAt A 613 (bysA R)
  sums : A[645]? = some (.slice q n c)
theorem gans_mk {A0 : Array Value} (hs : A0.size = 646) (ho : A0.all (·.oneCell') = true) (hk : A0[0]? = some (.int .i64 12)) (he : A0[1]? = some (.int .i64 0)) (q : Option Addr) (c n : Nat) {R : List UInt8} (hR : R.length = 32) :
    GAns ((A0.setIfInBounds 645 (.slice q n c)).toList.take 613 ++ (bysA R).toList ++ (A0.setIfInBounds 645 (.slice q n c)).toList.drop (613 + (bysA R).size)).toArray q c n R := by
  have h32 : (bysA R).size = 32 := by rw [bysA_size, hR]
  have h32' : (bysA R).toList.length = 32 := by simpa using h32
  have hs1 : (A0.setIfInBounds 645 (.slice q n c)).toList.length = 646 := by simp [hs]
  have ht : ((A0.setIfInBounds 645 (.slice q n c)).toList.take 613).length = 613 := by rw [List.length_take, hs1]; rfl
  have lo : ∀ j, j < 613 → ((A0.setIfInBounds 645 (.slice q n c)).toList.take 613 ++ (bysA R).toList ++ (A0.setIfInBounds 645 (.slice q n c)).toList.drop (613 + (bysA R).size)).toArray[j]? = A0[j]? := fun j hj => by
    rw [List.getElem?_toArray, List.append_assoc, List.getElem?_append_left (by rw [ht]; exact hj), List.getElem?_take_of_lt hj, Array.getElem?_toList, Array.getElem?_setIfInBounds_ne (by omega)]
  refine ⟨?_, ?_, by rw [lo 0 (by decide)]; exact hk, by rw [lo 1 (by decide)]; exact he, fun j u hu => ?_, ?_⟩
  · simp only [List.size_toArray, List.length_append, ht, h32', List.length_drop, hs1, h32]
  · rw [Array.all_eq_true_iff_forall_mem] at ho ⊢
    intro u hu
    have one1 : ∀ u ∈ (A0.setIfInBounds 645 (.slice q n c)).toList, u.oneCell' = true := fun u hu => by
      have hu : u ∈ A0.setIfInBounds 645 (.slice q n c) := Array.mem_toList_iff.1 hu
      rcases Array.mem_or_eq_of_mem_setIfInBounds hu with h | rfl
      · exact ho u h
      · rfl
    simp only [List.mem_toArray, List.mem_append] at hu
    rcases hu with (hu | hu) | hu
    · exact one1 u (List.mem_of_mem_take hu)
    · exact (Array.all_eq_true_iff_forall_mem.1 (bysA_one R)) u (by simpa using hu)
    · exact one1 u (List.mem_of_mem_drop hu)
  · have hj := (Array.getElem?_eq_some_iff.1 hu).1
    rw [List.getElem?_toArray, List.append_assoc, List.getElem?_append_right (by rw [ht]; omega), ht, Nat.add_sub_cancel_left, List.getElem?_append_left (by simpa using hj)]
    simpa using hu
  · rw [List.getElem?_toArray, List.getElem?_append_right (by rw [List.length_append, ht, h32']; decide), List.length_append, ht, h32', List.getElem?_drop, h32, Array.getElem?_toList]
    exact Array.getElem?_setIfInBounds_self_of_lt (by omega)
end Gr
end Go.Proofs.YtjkbpdobeljmjaaGreatDoor


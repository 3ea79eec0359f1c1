/- The walks of Hash.Len, Hash.Fork and custumallaw01.Sha2Forks. -/
import Derived.Test.YtmcjjionfmdioaaDoorSizes
import Derived.Test.YtmcjjionfmdioaaDoorPlan
import Derived.Test.YtmcjjionfmdioaaDoorEqA
namespace Go.Proofs.YtmcjjionfmdioaaDoor
open Go.RowKit Bits Mem Sha
namespace Ref
set_option maxRecDepth 100000 in
set_option maxHeartbeats 400000 in
theorem len_any (hb : Nat) (all : List UInt8) (w : World) (hh : HashAt w hb all) :
    Calls Tryd.prog 36 #[.pointer (some ⟨hb, 0, none⟩)] w fun e w' => e = .returned (.int .i64 (all.length : Int)) ∧ w' = w := by
  obtain ⟨p, c, t, hrow, _, _⟩ := hh
  have hn := st_length all
  have c9 : w.cell? ⟨hb, 9, none⟩ = some (.int .i64 (all.length : Int)) := by rw [cell_of_row w hb 9 _ _ _ hrow, Array.getElem?_append_right (by rw [cells_size]; omega), cells_size, hn]; rfl
  clear hrow hn
  go_enter Tryd.func36, Tryd.ntmps36
  go_wp2_with fail
  go_ret
  exact ⟨rfl, rfl⟩
theorem build_hash8 (a0 a1 a2 a3 a4 a5 a6 a7 : BitVec 32) (p : Option Addr) (k c : Nat) (m : Int) : Tryd.prog.built 81 [(0, .agg (cells [a0, a1, a2, a3, a4, a5, a6, a7])), (1, .slice p k c), (2, .int .i64 m)] = some (cells [a0, a1, a2, a3, a4, a5, a6, a7] ++ #[.slice p k c, .int .i64 m]) := by kernel_rfl
theorem build_hash (W : List (BitVec 32)) (hW : W.length = 8) (p : Option Addr) (k c : Nat) (m : Int) : Tryd.prog.built 81 [(0, .agg (cells W)), (1, .slice p k c), (2, .int .i64 m)] = some (cells W ++ #[.slice p k c, .int .i64 m]) :=
  match W, hW with
  | [a0, a1, a2, a3, a4, a5, a6, a7], _ => build_hash8 a0 a1 a2 a3 a4 a5 a6 a7 p k c m
namespace Rp2
open Rp
theorem Le_drew {w x : World} (h : Rp.Le w.drew x) : Rp.Le w x := ⟨h.os, h.tape, h.output, h.size, h.block⟩
theorem s_load {P : Program} {ops : Array Oper} {Q : Exit → Act → World → Prop} {tail : List Oper} {a : Act} {w : World} {o : Oper} {r : List (Oper × Bool)} (hw : Region.wanted o (yielded ops a.tmps) = true) (ty : TypeId) (y : Operand) (ho : o.op = .load ty y) (v : Value)
    (hrun : ∀ x, Rp.Le w x → (Instr.loadAt ty (a.eval y)).run P x = .ok v x)
    (h : ∀ K : Act → Prop, (∀ a, Rp.wpPerm P ops Q tail r a w → K a) → K (a.put o.dst v)) : Rp.wpPerm P ops Q tail ((o, true) :: r) a w :=
  Rp.s_run v hw (fun x hx => by simp [execOp, ho, hrun x hx]) h
theorem s_build {P : Program} {ops : Array Oper} {Q : Exit → Act → World → Prop} {tail : List Oper} {a : Act} {w : World} {o : Oper} {r : List (Oper × Bool)} (hw : Region.wanted o (yielded ops a.tmps) = true) (t : TypeId) (parts : Array (Nat × Operand)) (ho : o.op = .build t parts) (cs : Array Value)
    (hb : P.built t (parts.map fun (i, x) => (i, a.eval x)).toList = some cs)
    (h : ∀ K : Act → Prop, (∀ a, Rp.wpPerm P ops Q tail r a w → K a) → K (a.put o.dst (.agg cs))) : Rp.wpPerm P ops Q tail ((o, true) :: r) a w :=
  Rp.s_run (.agg cs) hw (fun x _ => by unfold execOp; simp only [ho, Sem.run_bind, run_build x t _ cs hb, Result.andThen_ok, Sem.run_pure]) h
end Rp2
set_option maxRecDepth 100000 in
set_option maxHeartbeats 1000000 in
theorem fork_any (hb : Nat) (all : List UInt8) (w : World) (hh : HashAt w hb all) :
    Calls Tryd.prog 35 #[.pointer (some ⟨hb, 0, none⟩)] w fun e w' => ∃ f, e = .returned (.pointer (some ⟨f, 0, none⟩)) ∧ HashAt w' f all ∧ w.heap.size ≤ f ∧ Below w.heap.size w w' := by
  obtain ⟨p, c, t, hrow, hrd, hne⟩ := hh
  have hn := st_length all
  have hlt := lt_of_heap hrow
  have c8 : w.cell? ⟨hb, 8, none⟩ = some (.slice p (rs all).length c) := by rw [cell_of_row w hb 8 _ _ _ hrow, Array.getElem?_append_right (by rw [cells_size]; omega), cells_size, hn]; rfl
  have c9 : w.cell? ⟨hb, 9, none⟩ = some (.int .i64 (all.length : Int)) := by rw [cell_of_row w hb 9 _ _ _ hrow, Array.getElem?_append_right (by rw [cells_size]; omega), cells_size, hn]; rfl
  have HLD : Hid (∀ x, Rp.Le w x → (Instr.loadAt 79 (.pointer (some ⟨hb, 0, none⟩))).run Tryd.prog x = .ok (.agg (cells (st all))) x) := Lib.hid (fun x hx => by
    have hrx := Rp.row_le hx hrow
    refine run_loadAt_mid x hb 0 _ (cells (st all)).toList _ ?_ Tryd.underlying79 rfl ?_
    · intro j v hv
      rw [cell_of_row x hb (0 + j) _ _ _ hrx]
      have hj : j < (cells (st all)).size := by have := (List.getElem?_eq_some_iff.1 hv).1; simpa using this
      rw [Nat.zero_add, Array.getElem?_append_left hj]; simpa using hv
    · rw [Array.length_toList, cells_size, hn]; exact info8)
  have HRD := Lib.hid hrd
  have HN := Lib.hid hn
  obtain ⟨i0, hi, hz0, hz1, hz2⟩ := parts3 info1
  have hrl : (rs all).length ≤ 63 := by rw [rs_length]; omega
  obtain ⟨R, hR⟩ : ∃ R, R = rs all := ⟨_, rfl⟩
  rw [← hR] at c8 HRD hrl
  have HR := Lib.hid hR
  clear hrow hrd hne hn hR
  go_enter Tryd.func35, Tryd.ntmps35
  go_wp2_with fail
  refine Rp.region 16 [(0, true), (1, true), (2, true), (3, true), (5, true), (6, true), (7, true), (8, true), (10, true), (11, true), (12, true), (13, true), (4, false), (9, false), (14, true), (15, false)] (by kernel_rfl) (by kernel_rfl) ?_; simp only [Rp.pick, Rp.nth, List.drop_succ_cons, List.drop_zero]
  repeat (refine Rp.stepK rfl ?_; intro K hK; apply Exists.intro; refine ⟨?_, ?_⟩; (focus (intro x hx; have c8x := Rp.cell_le hx c8; have c9x := Rp.cell_le hx c9; go_simp; (first | (fail) | ((try go_bits); (try go_simp); (try rfl))))); go_simp; refine hK _ ?_; clear hK K)
  refine Rp2.s_load rfl 79 _ rfl _ (fun x hx => HLD.out x (Rp2.Le_drew hx)) ?_
  intro K hK; go_simp; refine hK _ ?_; clear hK K
  repeat (refine Rp.stepK rfl ?_; intro K hK; apply Exists.intro; refine ⟨?_, ?_⟩; (focus (intro x hx; have c8x := Rp.cell_le hx c8; have c9x := Rp.cell_le hx c9; go_simp; (first | (fail) | ((try go_bits); (try go_simp); (try rfl))))); go_simp; refine hK _ ?_; clear hK K)
  refine Rp.stepF fun K hK => ?_
  go_wp2_with fail
  refine hK _ _ ((Below.refl _ _).alloc (Nat.le_refl _) _) ?_; clear hK K
  have hw1 : Below w.heap.size w (w.alloc (.cells #[] 5)) := (Below.refl _ _).alloc (Nat.le_refl _) _
  have ho : Ow ((w.alloc (.cells #[] 5)).drewN 1) w.heap.size 5 1 (.slice (some ⟨w.heap.size, 0, none⟩) 0 0) 0 [] := Ow.lit w #[] 5 1 0 w.heap.size (Nat.le_refl _) (Nat.zero_le _) rfl
  refine Rp.stepF fun K hK => ?_
  refine app_empty rfl _ _ 28 28 rfl w.heap.size 5 i0 (.int .u8 0) 1 1 Tryd.underlying28 hi hz0 hz1 hz2 rfl _ rfl ho _ _ _ rfl (Rd.src Tryd.underlying28 ((HRD.out.below hw1).drewN 1) (bys_one _)) (by unfold maxLen; omega) (by omega) (by simp) ?_
  intro v2 w2 how2 hb2
  have hb02 : Below w.heap.size w w2 := (Rg.below_drewN hw1 1).trans (hb2.mono (by simp))
  obtain ⟨q2, c2, rfl⟩ := Ow_form how2
  refine hK _ _ hb2 ?_; clear hK K
  go_simp
  have HBD : Hid (Tryd.prog.built 81 [(0, .agg (cells (st all))), (1, .slice q2 R.length c2), (2, .int .i64 (all.length : Int))] = some (cells (st all) ++ #[.slice q2 R.length c2, .int .i64 (all.length : Int)])) := Lib.hid (build_hash _ HN.out _ _ _ _)
  refine Rp2.s_build rfl 81 _ rfl (cells (st all) ++ #[.slice q2 R.length c2, .int .i64 (all.length : Int)]) (by go_simp; exact HBD.out) ?_
  intro K hK; go_simp; refine hK _ ?_; clear hK K
  refine Rp.stepF fun K hK => ?_
  go_wp2
  refine hK _ _ ((Below.refl _ _).alloc (Nat.le_refl _) _) ?_; clear hK K
  refine Rp.done ?_; go_wp2_with fail; refine NoPanic.normal ?_; go_wp2_with fail
  go_ret
  have h3 : Below w2.heap.size w2 (w2.alloc (.cells (cells (st all) ++ #[.slice q2 R.length c2, .int .i64 (all.length : Int)]) 81)) := (Below.refl _ _).alloc (Nat.le_refl _) _
  refine ⟨w2.heap.size, rfl, ⟨q2, c2, 81, ?_, ?_, ?_⟩, hb02.size, hb02.trans (h3.mono hb02.size)⟩
  · rw [← HR.out]; exact Rg.heap_alloc_at w2 _ _ rfl
  · rw [← HR.out]; exact (Rd.of_ow how2).below h3
  · rw [← HR.out]; intro e; have := (how2.lt _ e).2; omega
set_option maxRecDepth 100000 in
set_option maxHeartbeats 4000000 in
theorem sha2forks_any (qa qb qc : Option Addr) (ca cb cc : Nat) (A0 B0 C0 : List UInt8) (w : World) (hS : Sha.Tabs w) (hA : Rd w 1 (.slice qa A0.length ca) A0.length (bys A0)) (hB : Rd w 1 (.slice qb B0.length cb) B0.length (bys B0)) (hC : Rd w 1 (.slice qc C0.length cc) C0.length (bys C0)) :
    Calls Tryd.prog 9 #[.slice qa A0.length ca, .slice qb B0.length cb, .slice qc C0.length cc] w fun e w' => e = .returned (.bool true) ∧ Below w.heap.size w w' := by
  obtain ⟨i0, hi, hz0, hz1, hz2⟩ := parts3 info1
  have HS := Lib.hid hS
  have hca := Rd_cap hA
  have hcb := Rd_cap hB
  have hcc := Rd_cap hC
  have HA := Lib.hid (Rd_take hA (Nat.min_le_left A0.length 300))
  have HB := Lib.hid (Rd_take hB (Nat.min_le_left B0.length 300))
  have HC := Lib.hid (Rd_take hC (Nat.min_le_left C0.length 300))
  have hma : (if (300 : Int) < (A0.length : Int) then (300 : Int) else (A0.length : Int)) = ((min A0.length 300 : Nat) : Int) := by split <;> omega
  have hmb : (if (300 : Int) < (B0.length : Int) then (300 : Int) else (B0.length : Int)) = ((min B0.length 300 : Nat) : Int) := by split <;> omega
  have hmc : (if (300 : Int) < (C0.length : Int) then (300 : Int) else (C0.length : Int)) = ((min C0.length 300 : Nat) : Int) := by split <;> omega
  clear hS hA hB hC
  go_enter Tryd.func9, Tryd.ntmps9
  go_wp2_with fail
  refine (sums_any _ HS.out).mono ?_
  rintro e w1 ⟨rfl, hb1⟩
  have HB1 := Lib.hid hb1
  clear hb1
  go_wp2_with fail
  refine Rp.region 17 [(0, true), (1, true), (2, true), (3, true), (4, true), (5, true), (6, true), (7, true), (8, true), (9, true), (10, true), (11, true), (12, true), (13, true), (14, true), (15, true), (16, true)] (by kernel_rfl) (by kernel_rfl) ?_; simp only [Rp.pick, Rp.nth, List.drop_succ_cons, List.drop_zero]
  repeat (refine Rp.stepK rfl ?_; intro K hK; apply Exists.intro; refine ⟨?_, ?_⟩; (focus (intro x hx;  go_simp; (first | (fail) | ((try go_bits); (try go_simp); (try rfl))))); go_simp; refine hK _ ?_; clear hK K)
  refine Rp.s_cut rfl 28 _ _ rfl 5 i0 Tryd.underlying28 hi qa A0.length ca (min A0.length 300) rfl rfl (by omega) ?_
  intro K hK; go_simp; refine hK _ ?_; clear hK K
  repeat (refine Rp.stepK rfl ?_; intro K hK; apply Exists.intro; refine ⟨?_, ?_⟩; (focus (intro x hx;  go_simp; (first | (fail) | ((try go_bits); (try go_simp); (try rfl))))); go_simp; refine hK _ ?_; clear hK K)
  refine Rp.s_cut rfl 28 _ _ rfl 5 i0 Tryd.underlying28 hi qb B0.length cb (min B0.length 300) rfl rfl (by omega) ?_
  intro K hK; go_simp; refine hK _ ?_; clear hK K
  repeat (refine Rp.stepK rfl ?_; intro K hK; apply Exists.intro; refine ⟨?_, ?_⟩; (focus (intro x hx;  go_simp; (first | (fail) | ((try go_bits); (try go_simp); (try rfl))))); go_simp; refine hK _ ?_; clear hK K)
  refine Rp.s_cut rfl 28 _ _ rfl 5 i0 Tryd.underlying28 hi qc C0.length cc (min C0.length 300) rfl rfl (by omega) ?_
  intro K hK; go_simp; refine hK _ ?_; clear hK K
  repeat (refine Rp.stepK rfl ?_; intro K hK; apply Exists.intro; refine ⟨?_, ?_⟩; (focus (intro x hx;  go_simp; (first | (fail) | ((try go_bits); (try go_simp); (try rfl))))); go_simp; refine hK _ ?_; clear hK K)
  refine Rp.done ?_; go_wp2_with fail; refine NoPanic.normal ?_; go_wp2_with fail
  obtain ⟨A, hXA⟩ : ∃ A, A = A0.take (min A0.length 300) := ⟨_, rfl⟩
  have hlA : min A0.length 300 = A.length := by rw [hXA, List.length_take]; omega
  have hsA : A.length ≤ 300 := by omega
  rw [← hXA] at HA
  rw [hlA] at HA ⊢
  clear hXA hlA
  obtain ⟨B, hXB⟩ : ∃ B, B = B0.take (min B0.length 300) := ⟨_, rfl⟩
  have hlB : min B0.length 300 = B.length := by rw [hXB, List.length_take]; omega
  have hsB : B.length ≤ 300 := by omega
  rw [← hXB] at HB
  rw [hlB] at HB ⊢
  clear hXB hlB
  obtain ⟨C, hXC⟩ : ∃ C, C = C0.take (min C0.length 300) := ⟨_, rfl⟩
  have hlC : min C0.length 300 = C.length := by rw [hXC, List.length_take]; omega
  have hsC : C.length ≤ 300 := by omega
  rw [← hXC] at HC
  rw [hlC] at HC ⊢
  clear hXC hlC
  clear hma hmb hmc hca hcb hcc hi hz0 hz1 hz2
  have HB1' : Hid (Below w.heap.size w w1.drew) := Lib.hid HB1.out.drew
  refine (new_any _ (HS.out.below HB1'.out)).mono ?_
  rintro e w2 ⟨hb, rfl, hh, hge, hb2⟩
  have HGE : Hid (w.heap.size ≤ hb) := Lib.hid (Nat.le_trans HB1'.out.size hge)
  have HB2 := Lib.hid (HB1'.out.trans (hb2.mono HB1'.out.size))
  have HH2 := Lib.hid hh
  clear hh hge hb2
  go_wp2_with fail
  have hne : ∀ {q : Option Addr} {n c : Nat} {xs : List Value}, Rd w 1 (.slice q n c) n xs → (Value.slice q n c).ownBlock ≠ some hb := fun h e => by have := Rd_own_lt h e; have := HGE.out; omega
  refine (write_any hb [] A qa ca _ (HS.out.below HB2.out) HH2.out (HA.out.below HB2.out) (hne HA.out) (by simp; omega)).mono ?_
  rintro e w3 ⟨rfl, hh3, hg3⟩
  rw [List.nil_append] at hh3
  have HB3 := Lib.hid (HB2.out.grown hg3 HB2.out.size (fun j hj => by have e' : hb = j := Option.some.inj hj; have := HGE.out; omega))
  have HH3 := Lib.hid hh3
  clear hh3 hg3
  go_wp2_with fail
  refine (fork_any hb A _ HH3.out).mono ?_
  rintro e w4 ⟨f, rfl, hf4, hgf, hb4⟩
  have hlt3 := HashAt.lt HH3.out
  have hnf : hb ≠ f := by omega
  have HGF : Hid (w.heap.size ≤ f) := Lib.hid (Nat.le_trans HB3.out.size hgf)
  have HB4 := Lib.hid (HB3.out.trans (hb4.mono HB3.out.size))
  have HH4 := Lib.hid (HashAt.below HH3.out hb4)
  have HF4 := Lib.hid hf4
  have HNF := Lib.hid hnf
  clear hlt3 hnf hf4 hgf hb4
  go_wp2_with fail
  refine (write_any hb A B qb cb _ (HS.out.below HB4.out) HH4.out (HB.out.below HB4.out) (hne HB.out) (by omega)).mono ?_
  rintro e w5 ⟨rfl, hh5, hg5⟩
  have HB5 := Lib.hid (HB4.out.grown hg5 HB4.out.size (fun j hj => by have e' : hb = j := Option.some.inj hj; have := HGE.out; omega))
  have HH5 := Lib.hid hh5
  have HF5 := Lib.hid (HashAt.other HF4.out HH4.out HNF.out.symm hg5)
  have hnef : ∀ {q : Option Addr} {n c : Nat} {xs : List Value}, Rd w 1 (.slice q n c) n xs → (Value.slice q n c).ownBlock ≠ some f := fun h e => by have := Rd_own_lt h e; have := HGF.out; omega
  clear hh5 hg5
  go_wp2_with fail
  refine (write_any f A C qc cc _ (HS.out.below HB5.out) HF5.out (HC.out.below HB5.out) (hnef HC.out) (by omega)).mono ?_
  rintro e w6 ⟨rfl, hf6, hg6⟩
  have HB6 := Lib.hid (HB5.out.grown hg6 HB5.out.size (fun j hj => by have e' : f = j := Option.some.inj hj; have := HGF.out; omega))
  have HH6 := Lib.hid (HashAt.other HH5.out HF5.out HNF.out hg6)
  have HF6 := Lib.hid hf6
  clear hf6 hg6 hne hnef HH2 HH3 HH4 HF4 HH5 HF5 HB2 HB3 HB4 HB5 HB1 HB1'
  go_wp2_with fail
  refine (sum_some hb (A ++ B) _ (HS.out.below HB6.out) HH6.out (by rw [List.length_append]; omega)).mono ?_
  rintro e w7 ⟨rfl, hb7⟩
  have HB7 := Lib.hid (HB6.out.trans (hb7.mono HB6.out.size))
  have HH7 := Lib.hid (HashAt.below HH6.out hb7)
  have HF7 := Lib.hid (HashAt.below HF6.out hb7)
  clear hb7 HB6 HH6 HF6
  go_wp2_with fail
  have hp8 := Parts.lit2 w7 A B _ _ ⟨_, _, rfl, HA.out.below HB7.out⟩ ⟨_, _, rfl, HB.out.below HB7.out⟩
  have hx8 : Below w7.heap.size w7 (w7.alloc (.cells #[.slice qa A.length ca, .slice qb B.length cb] 28)) := (Below.refl _ _).alloc (Nat.le_refl _) _
  have hs8 := parts_any _ _ [A, B] _ (HS.out.below (HB7.out.trans (hx8.mono HB7.out.size))) hp8 (by simp; omega)
  rw [show [A, B].flatten = A ++ B from by simp] at hs8
  refine hs8.mono ?_
  rintro e w8 ⟨rfl, hb8⟩
  have h78 : Below w7.heap.size w7 w8 := hx8.trans (hb8.mono hx8.size)
  have HB8 := Lib.hid (HB7.out.trans (h78.mono HB7.out.size))
  have HH8 := Lib.hid (HashAt.below HH7.out h78)
  have HF8 := Lib.hid (HashAt.below HF7.out h78)
  clear hp8 hx8 hs8 hb8 h78 HB7 HH7 HF7
  go_wp2_with fail
  refine (sum_some f (A ++ C) _ (HS.out.below HB8.out) HF8.out (by rw [List.length_append]; omega)).mono ?_
  rintro e w9 ⟨rfl, hb9⟩
  have HB9 := Lib.hid (HB8.out.trans (hb9.mono HB8.out.size))
  have HH9 := Lib.hid (HashAt.below HH8.out hb9)
  have HF9 := Lib.hid (HashAt.below HF8.out hb9)
  clear hb9 HB8 HH8 HF8
  go_wp2_with fail
  have hp8 := Parts.lit2 w9 A C _ _ ⟨_, _, rfl, HA.out.below HB9.out⟩ ⟨_, _, rfl, HC.out.below HB9.out⟩
  have hx8 : Below w9.heap.size w9 (w9.alloc (.cells #[.slice qa A.length ca, .slice qc C.length cc] 28)) := (Below.refl _ _).alloc (Nat.le_refl _) _
  have hs8 := parts_any _ _ [A, C] _ (HS.out.below (HB9.out.trans (hx8.mono HB9.out.size))) hp8 (by simp; omega)
  rw [show [A, C].flatten = A ++ C from by simp] at hs8
  refine hs8.mono ?_
  rintro e w10 ⟨rfl, hb8⟩
  have h78 : Below w9.heap.size w9 w10 := hx8.trans (hb8.mono hx8.size)
  have HB10 := Lib.hid (HB9.out.trans (h78.mono HB9.out.size))
  have HH10 := Lib.hid (HashAt.below HH9.out h78)
  have HF10 := Lib.hid (HashAt.below HF9.out h78)
  clear hp8 hx8 hs8 hb8 h78 HB9 HH9 HF9
  go_wp2_with fail
  refine (len_any hb (A ++ B) _ HH10.out).mono ?_
  rintro e w11 ⟨rfl, rfl⟩
  go_wp2_with fail
  refine (len_any f (A ++ C) _ HF10.out).mono ?_
  rintro e w11 ⟨rfl, rfl⟩
  go_wp2_with fail
  go_ret
  exact ⟨rfl, HB10.out⟩
end Ref
end Go.Proofs.YtmcjjionfmdioaaDoor

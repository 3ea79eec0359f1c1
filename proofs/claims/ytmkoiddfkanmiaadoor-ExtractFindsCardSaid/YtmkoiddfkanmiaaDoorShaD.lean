/- The walks of sha2's Hash: New, Write. -/
import Derived.Test.YtmkoiddfkanmiaaDoorShaC
import Derived.Test.YtmkoiddfkanmiaaDoorMem
namespace Go.Proofs.YtmkoiddfkanmiaaDoor
open Go.RowKit Bits Mem
namespace Sha
theorem info1 : (Tryd.prog.info? 5).map (fun i => (i.zero, i.size, i.bytes)) = some (some (.int .u8 0), 1, 1) := by kernel_rfl
/-- What stands in memory behind a *Hash to which 'all' was written. -/
def HashAt (w : World) (hb : Nat) (all : List UInt8) : Prop :=
  ∃ p c t, w.heap[hb]? = some (.cells (cells (st all) ++ #[.slice p (rs all).length c, .int .i64 (all.length : Int)]) t (0, 0)) ∧
    Rd w 1 (.slice p (rs all).length c) (rs all).length (bys (rs all)) ∧ (Value.slice p (rs all).length c).ownBlock ≠ some hb
theorem set_last (A : Array Value) (a b v : Value) (n : Nat) (hA : A.size + 1 = n) : (A ++ #[a, b]).setIfInBounds n v = A ++ #[a, v] := by
  subst hA
  apply Array.ext'
  simp
theorem set_prev (A : Array Value) (a b v : Value) (n : Nat) (hA : A.size = n) : (A ++ #[a, b]).setIfInBounds n v = A ++ #[v, b] := by
  subst hA
  apply Array.ext'
  simp
theorem row_words (A B : List (BitVec 32)) (a b : Value) (hA : A.length = 8) (hB : B.length = 8) :
    ((cells A ++ #[a, b]).toList.take 0 ++ (cells B).toList ++ (cells A ++ #[a, b]).toList.drop (0 + (cells B).size)).toArray = cells B ++ #[a, b] := by
  apply Array.ext'
  simp [cells, hA, hB]
/-- The tables are none of a Hash's block: that has ten cells. -/
theorem Tabs.ne {w : World} (h : Tabs w) {hb : Nat} {A : List (BitVec 32)} {a b : Value} {t : TypeId} {f : Nat × Nat} (hr : w.heap[hb]? = some (.cells (cells A ++ #[a, b]) t f)) (hA : A.length = 8) :
    (2 : Nat) ≠ hb ∧ (3 : Nat) ≠ hb := by
  obtain ⟨t1, f1, h1⟩ := h.start
  obtain ⟨t2, f2, h2⟩ := h.rounds
  constructor
  · intro e; rw [e, hr] at h1
    have := congrArg (fun o : Option Obj => match o with | some (.cells c _ _) => c.size | _ => 0) h1
    simp [cells, hA] at this
    rw [HH_length] at this; omega
  · intro e; rw [e, hr] at h2
    have := congrArg (fun o : Option Obj => match o with | some (.cells c _ _) => c.size | _ => 0) h2
    simp [cells, hA] at this
    rw [KK_length] at this; omega
theorem Tabs.grown {w w' : World} (h : Tabs w) {hb : Nat} (hg : w.grownBy w' (some hb)) (h1 : (2 : Nat) ≠ hb) (h2 : (3 : Nat) ≠ hb) : Tabs w' := by
  obtain ⟨t, f, k1⟩ := h.start
  obtain ⟨t', f', k2⟩ := h.rounds
  exact ⟨⟨t, f, (hg.block _ h.lt1 (by simpa using h1)).trans k1⟩, ⟨t', f', (hg.block _ h.lt2 (by simpa using h2)).trans k2⟩⟩
theorem Rd_form {w : World} {size : Nat} {v : Value} {n : Nat} {xs : List Value} (h : Rd w size v n xs) : ∃ p c, v = .slice p n c := by
  rcases h.2 with ⟨rfl, rfl⟩ | ⟨b, off, cap, rfl, _⟩
  · exact ⟨_, _, rfl⟩
  · exact ⟨_, _, rfl⟩
theorem Rd_cut {w : World} {size : Nat} {p : Option Addr} {c n : Nat} {xs : List Value} (h : Rd w size (.slice p n c) n xs) : Rd w size (.slice p n n) n xs := by
  refine ⟨h.1, ?_⟩
  rcases h.2 with ⟨hv, rfl⟩ | ⟨b, off, cap, hv, hb, hnc, hcm, hc⟩
  · cases hv; exact .inl ⟨rfl, rfl⟩
  · cases hv; exact .inr ⟨b, off, n, rfl, hb, Nat.le_refl _, Nat.le_trans hnc hcm, hc⟩
theorem grown_trans {a b c : World} {r : Option Nat} (h : a.grownBy b r) (k : b.grownBy c r) : a.grownBy c r :=
  ⟨k.os.trans h.os, k.tape.trans h.tape, k.output.trans h.output, Nat.le_trans h.size k.size, fun i hi hne => (k.block i (Nat.lt_of_lt_of_le hi h.size) hne).trans (h.block i hi hne)⟩
theorem grown_below {a b : World} (h : Below a.heap.size a b) (r : Option Nat) : a.grownBy b r := ⟨h.os, h.tape, h.output, h.size, fun k hk _ => h.block k hk⟩
theorem grown_setCell (a : World) (g o : Nat) (v : Value) : a.grownBy (a.setCell ⟨g, o, none⟩ v) (some g) :=
  ⟨rfl, rfl, rfl, by simp, fun k _ hne => heap_setCell_other _ _ _ _ (by intro e; apply hne; rw [e])⟩
theorem grown_setRow (a : World) (g : Nat) (c : Array Value) : a.grownBy (a.setRow g c) (some g) :=
  ⟨rfl, rfl, rfl, by simp, fun k _ hne => setRow_other _ _ _ _ (by intro e; apply hne; rw [e])⟩
/-- The number of elements in a slot's slice: for a loop's measure. -/
def sliceLen : Value → Nat | .slice _ n _ => n | _ => 0
theorem Rd_lt {w : World} {size : Nat} {p : Option Addr} {c n : Nat} {xs : List Value} (h : Rd w size (.slice p n c) n xs) (h0 : 0 < n) :
    ∃ b off, p = some ⟨b, off, none⟩ ∧ b < w.heap.size ∧ n ≤ c ∧ c ≤ maxLen ∧ ∀ j u, xs[j]? = some u → w.cell? ⟨b, off + j, none⟩ = some u := by
  rcases h.2 with ⟨_, h1⟩ | ⟨b, off, cap, hv, hb, hnc, hcm, hc⟩
  · omega
  · have e := Value.slice.inj hv
    obtain ⟨e1, _, e3⟩ := e
    subst e1 e3
    exact ⟨b, off, rfl, hb, hnc, hcm, hc⟩
/-- A slice from its k-th element on (in the two ways in which the model lays it). -/
theorem Rd_drop {w : World} {b off c n k : Nat} {l : List UInt8} (h : Rd w 1 (.slice (some ⟨b, off, none⟩) n c) n (bys l)) (hk : k ≤ n) :
    Rd w 1 (.slice (some ⟨b, off + k, none⟩) (n - k) (c - k)) (n - k) (bys (l.drop k)) := by
  obtain ⟨h1, h2⟩ := h
  rw [bys_length] at h1
  refine ⟨by rw [bys_length, List.length_drop]; omega, ?_⟩
  rcases h2 with ⟨hv, _⟩ | ⟨b', off', cap, hv, hb, hnc, hcm, hc⟩
  · cases hv
  · cases hv
    refine .inr ⟨b, off + k, c - k, rfl, hb, by omega, by omega, fun j u hu => ?_⟩
    have : (bys l)[k + j]? = some u := by
      rw [← hu]; simp [bys, List.getElem?_drop]
    have := hc (k + j) u this
    rwa [show off + k + j = off + (k + j) by omega]
theorem Rd_none {w : World} {b off c : Nat} {n : Nat} {xs : List Value} (h : Rd w 1 (.slice (some ⟨b, off, none⟩) n c) n xs) (c' : Nat) (hc' : c' ≤ maxLen) : Rd w 1 (.slice (some ⟨b, off, none⟩) 0 c') 0 (bys []) := by
  refine ⟨rfl, ?_⟩
  rcases h.2 with ⟨hv, _⟩ | ⟨b', off', cap, hv, hb, _⟩
  · cases hv
  · cases hv; exact .inr ⟨b, off, c', rfl, hb, Nat.zero_le _, hc', fun j u hu => by simp [bys] at hu⟩
set_option maxRecDepth 100000 in
set_option maxHeartbeats 2000000 in
theorem write_any (hb : Nat) (all l : List UInt8) (q : Option Addr) (qc : Nat) (w : World) (hT : Tabs w) (hh : HashAt w hb all) (hl : Rd w 1 (.slice q l.length qc) l.length (bys l))
    (hq : (Value.slice q l.length qc).ownBlock ≠ some hb) (hsz : all.length + l.length ≤ 70368744177664) :
    Calls Tryd.prog 51 #[.pointer (some ⟨hb, 0, none⟩), .slice q l.length qc] w fun e w' => e = .returned (.tuple #[]) ∧ HashAt w' hb (all ++ l) ∧ w.grownBy w' (some hb) := by
  obtain ⟨p, c0, t, hrow, hrd, hne⟩ := hh
  have hn := st_length all
  have c8 : w.cell? ⟨hb, 8, none⟩ = some (.slice p (rs all).length c0) := by rw [cell_of_row w hb 8 _ _ _ hrow, Array.getElem?_append_right (by rw [cells_size]; omega), cells_size, hn]; rfl
  have c9 : w.cell? ⟨hb, 9, none⟩ = some (.int .i64 (all.length : Int)) := by rw [cell_of_row w hb 9 _ _ _ hrow, Array.getElem?_append_right (by rw [cells_size]; omega), cells_size, hn]; rfl
  have f9 : w.frozen? ⟨hb, 9, none⟩ = false := frozen_of_row w hb 9 _ _ hrow
  generalize hR : rs all = R at *
  have HR := Lib.hid hR; clear hR
  have HROW := Lib.hid hrow; clear hrow
  have hn' := Lib.hid hn; clear hn
  go_enter Tryd.func51, Tryd.ntmps51
  go_wp2
  obtain ⟨w1, hw1⟩ : ∃ w1, w1 = w.setCell ⟨hb, 9, none⟩ (.int .i64 ((all.length : Int) + (l.length : Int))) := ⟨_, rfl⟩
  rw [← hw1]
  have g1 : w.grownBy w1 (some hb) := by rw [hw1]; exact grown_setCell _ _ _ _
  have ROW1 : Hid (w1.heap[hb]? = some (.cells (cells (st all) ++ #[.slice p R.length c0, .int .i64 ((all.length : Int) + (l.length : Int))]) t (0, 0))) := Lib.hid (by
    rw [hw1, heap_setCell_same _ _ _ _ _ _ HROW.out, set_last _ _ _ _ _ (by rw [cells_size, hn'.out])])
  have hrd1 := hrd.kept g1 (.inr hne)
  have hl1 := hl.kept g1 (.inr hq)
  have hT1 := hT.grown g1 (hT.ne HROW.out hn'.out).1 (hT.ne HROW.out hn'.out).2
  have d8 : w1.cell? ⟨hb, 8, none⟩ = some (.slice p R.length c0) := by rw [cell_of_row w1 hb 8 _ _ _ ROW1.out, Array.getElem?_append_right (by rw [cells_size, hn'.out]; omega), cells_size, hn'.out]; rfl
  have hRl : R.length ≤ 64 := by rw [← HR.out, rs_length]; omega
  have hnn : R.length ≤ c0 := by
    rcases hrd.2 with ⟨hv, h0⟩ | ⟨_, _, _, hv, _, hnc, _⟩
    · omega
    · have := Value.slice.inj hv; omega
  have HW1 := Lib.hid hw1; clear hw1
  have HG1 := Lib.hid g1; clear g1
  clear c8 c9 f9 hrd hl hT
  obtain ⟨i0, hi, hz0, hz1, hz2⟩ := info_parts info1
  refine Rg.tail (fun w' => ∃ n, w' = (w1).drewN n) 16 (by kernel_rfl) (by kernel_rfl) ⟨0 + 1, rfl⟩ ?_; simp only [List.take_succ_cons, List.take_zero, List.drop_succ_cons, List.drop_zero]
  repeat (refine Rg.stepK rfl ?_; intro K hK; apply Exists.intro; refine ⟨?_, ?_⟩; (focus (intro w' hw'; obtain ⟨nq, rfl⟩ := hw'; go_simp; (first | (fail) | ((try go_bits); (try go_simp); (try rfl))))); go_simp; refine hK _ ?_; clear hK K)
  refine wpQuiet_nil ?_; intro w' hw'; obtain ⟨nq, rfl⟩ := hw'
  go_wp2_with (refine app_full rfl _ _ 24 rfl 5 i0 (.int .u8 0) 1 1 Tryd.underlying24 hi hz0 hz1 hz2 rfl p R.length (bys R) rfl (Rd_cut hrd1) _ l.length (bys l) rfl hl1 (bys_one l) (by unfold maxLen; omega) (by omega) ?_; intro v2 w2 hrd2 hbel2 hv2)
  obtain ⟨C, hC⟩ : ∃ C, C = R ++ l := ⟨_, rfl⟩
  have hrdC : Rd w2 1 v2 C.length (bys C) := by rw [hC, bys_append, List.length_append]; exact hrd2
  have hCl : C.length = R.length + l.length := by rw [hC, List.length_append]
  obtain ⟨q2, c2, rfl⟩ := Rd_form hrdC
  have hhb : hb < w1.heap.size := lt_of_heap ROW1.out
  have hne2 : (Value.slice q2 C.length c2).ownBlock ≠ some hb := by
    rcases hv2 with hv2 | ⟨g, cap, hv2, hg⟩
    · rw [hv2]
      cases p
      · simp [Value.ownBlock]
      · simpa [Value.ownBlock] using hne
    · rw [hv2]; simp [Value.ownBlock]
      have : w1.heap.size ≤ g := hg
      omega
  have hbel2' : Below w1.heap.size w1 w2 := ⟨hbel2.os, hbel2.tape, hbel2.output, hbel2.size, hbel2.block⟩
  have hg2 := grown_trans HG1.out (grown_below hbel2' (some hb))
  have hT2 := hT1.below hbel2'
  have ROW2 := Lib.hid (Rg.below_row hbel2' hhb ROW1.out)
  have HC := Lib.hid hC
  have HCL := Lib.hid hCl
  have HT2 := Lib.hid hT2
  clear hv2 hbel2 hrd1 hl1 hT1 d8 hrd2 hbel2' hC hCl hT2
  go_loopw [4] (fun v wr => ∃ k q c, 64 * k ≤ C.length ∧ v = .slice q (C.length - 64 * k) c ∧ Rd wr 1 (.slice q (C.length - 64 * k) c) (C.length - 64 * k) (bys (C.drop (64 * k))) ∧ (Value.slice q (C.length - 64 * k) c).ownBlock ≠ some hb ∧
      wr.heap[hb]? = some (.cells (cells (pressN k (st all) C) ++ #[.slice p R.length c0, .int .i64 ((all.length : Int) + (l.length : Int))]) t (0, 0)) ∧ w.grownBy wr (some hb) ∧ Tabs wr) (fun v _ => sliceLen v)
  case atStart => exact ⟨0, q2, c2, by omega, rfl, hrdC, hne2, ROW2.out, hg2, HT2.out⟩
  case round =>
    obtain ⟨k, qk, ck, hk, rfl, hrk, hnk, hrowk, hgk, hTk⟩ := hrel
    obtain ⟨D, hD⟩ : ∃ D, D = C.drop (64 * k) := ⟨_, rfl⟩
    have hDl : C.length - 64 * k = D.length := by rw [hD, List.length_drop]
    have HD := Lib.hid hD
    rw [← hD] at hrk
    rw [hDl] at hrk hnk ⊢
    clear hD
    have HDL := Lib.hid hDl; clear hDl
    have hPl : (pressN k (st all) C).length = 8 := by rw [pressN_length]; exact hn'.out
    obtain ⟨Hk, hHk⟩ : ∃ Hk, Hk = pressN k (st all) C := ⟨_, rfl⟩
    rw [← hHk] at hrowk hPl
    have HHK := Lib.hid hHk; clear hHk
    have ROWK := Lib.hid hrowk; clear hrowk
    have HPL := Lib.hid hPl; clear hPl
    have hDm : D.length ≤ 70368744177728 := by rw [← HDL.out]; have := HCL.out; omega
    by_cases hge : 64 ≤ D.length
    · obtain ⟨b2, off2, rfl, hb2, hnc, hcm, hcell⟩ := Rd_lt hrk (by omega)
      have hbn : b2 ≠ hb := by simpa [Value.ownBlock] using hnk
      have HPR : Hid (∀ w', Below wr.heap.size wr w' → Calls Tryd.prog 60 #[.agg (cells Hk), .slice (some ⟨b2, off2, none⟩) 64 ck] w' fun e w'' => e = .returned (.agg (cells (press Hk (D.take 64)))) ∧ Below wr.heap.size wr w'') := Lib.hid (fun w' hw' => by
        refine (press_any Hk (D.take 64) b2 off2 64 ck w' HPL.out (hTk.below hw') (by rw [List.length_take]; omega) (by rw [List.length_take]; omega) (by omega) ?_ ?_).mono fun e w'' h => ⟨h.1, hw'.trans (h.2.mono hw'.size)⟩
        · unfold maxLen at hcm; omega
        · intro j hj
          rw [hw'.cell (p := ⟨b2, off2 + j, none⟩) hb2]
          refine hcell j _ ?_
          rw [bys_get D j (by omega)]
          simp [bt, List.getD, hj])
      have HLD : Hid (∀ w', Below wr.heap.size wr w' → (Instr.loadAt 138 (.pointer (some ⟨hb, 0, none⟩))).run Tryd.prog w' = .ok (.agg (cells Hk)) w') := Lib.hid (fun w' hw' => by
        have hrow' := Rg.below_row hw' (lt_of_heap ROWK.out) ROWK.out
        refine run_loadAt_mid w' hb 0 _ (cells Hk).toList _ ?_ Tryd.underlying138 rfl ?_
        · intro j v hv
          rw [cell_of_row w' hb (0 + j) _ _ _ hrow']
          have hj : j < (cells Hk).size := by have := (List.getElem?_eq_some_iff.1 hv).1; simpa using this
          rw [Nat.zero_add, Array.getElem?_append_left hj]; simpa using hv
        · rw [Array.length_toList, cells_size, HPL.out]; exact info8)
      have hgei : (64 : Int) ≤ (D.length : Int) := by omega
      have hlt64 : 64 ≤ ck := by omega
      have hlt65 : (64 : Int) ≤ (ck : Int) := by omega
      have HCELL := Lib.hid hcell; clear hcell
      have hcm2 : ck ≤ 9223372036854775807 := by unfold maxLen at hcm; exact hcm
      go_wp2
      refine Rg.tail (fun w' => RowKit.Below (wr).heap.size (wr) w') 10 (by kernel_rfl) (by kernel_rfl) ((RowKit.Below.refl _ _).drew) ?_; simp only [List.take_succ_cons, List.take_zero, List.drop_succ_cons, List.drop_zero]
      repeat (first | (refine Mem.q_load rfl _ _ rfl _ (HLD.out) ?_; intro K hK; go_simp; refine hK _ ?_; clear hK K) | (refine Rg.stepK rfl ?_; intro K hK; apply Exists.intro; refine ⟨?_, ?_⟩; (focus (intro w' hw';  go_simp; (first | (go_at_call 60; exact HPR.out _ hw') | ((try go_bits); (try go_simp); (try rfl))))); go_simp; refine hK _ ?_; clear hK K))
      refine wpQuiet_nil ?_; intro w' hw'
      have roww := Rg.below_row hw' (lt_of_heap ROWK.out) ROWK.out
      have hPP : (press Hk (D.take 64)).length = 8 := by rw [press_length]; exact HPL.out
      have HROWW := Lib.hid roww; clear roww
      have HPP := Lib.hid hPP; clear hPP
      refine Rg.store_part rfl 138 _ _ rfl hb 0 rfl t _ (cells (press Hk (D.take 64))) rfl HROWW.out (by rw [cells_size, HPP.out]; exact info8) (by rw [cells_size, HPP.out, Array.size_append, cells_size, HPL.out]; show 0 + 8 ≤ 8 + 2; omega) (cells_one _) ?_
      rw [row_words _ _ _ _ HPL.out HPP.out]
      obtain ⟨w3, hw3⟩ : ∃ w3, w3 = w'.setRow hb (cells (press Hk (D.take 64)) ++ #[.slice p R.length c0, .int .i64 ((all.length : Int) + (l.length : Int))]) := ⟨_, rfl⟩
      rw [← hw3]
      have g3 : wr.grownBy w3 (some hb) := grown_trans (grown_below hw' (some hb)) (by rw [hw3]; exact grown_setRow _ _ _)
      have row3 : w3.heap[hb]? = some (.cells (cells (pressN (k + 1) (st all) C) ++ #[.slice p R.length c0, .int .i64 ((all.length : Int) + (l.length : Int))]) t (0, 0)) := by
        rw [hw3, setRow_heap _ _ _ _ _ _ HROWW.out, pressN_succ, ← HHK.out, ← HD.out]
      have hT3 := hTk.grown g3 (hTk.ne ROWK.out HPL.out).1 (hTk.ne ROWK.out HPL.out).2
      have hrd3 : Rd w3 1 (.slice (some ⟨b2, off2, none⟩) D.length ck) D.length (bys D) := hrk.kept g3 (.inr (by simpa [Value.ownBlock] using hbn))
      have hD' : C.drop (64 * (k + 1)) = D.drop 64 := by rw [HD.out, List.drop_drop]; congr 1
      have hN' : C.length - 64 * (k + 1) = D.length - 64 := by have := HDL.out; omega
      have hk' : 64 * (k + 1) ≤ C.length := by have := HDL.out; omega
      have HN' := Lib.hid hN'
      have HD' := Lib.hid hD'
      have HROW3 := Lib.hid row3
      have HT3 := Lib.hid hT3
      have HG3 := Lib.hid (grown_trans hgk g3)
      have HNM := Lib.hid hcm
      clear hw3 g3 row3 hT3 hD' hN' hcm hgk hTk hw'
      by_cases h64 : ck = 64
      · subst h64
        have hDn : D.length = 64 := by omega
        have hr0 := Rd_none hrd3 0 (Nat.zero_le _)
        have HDN := Lib.hid hDn; clear hDn
        have e0 : D.drop 64 = [] := List.drop_of_length_le (by rw [HDN.out]; exact Nat.le_refl _)
        have HE0 := Lib.hid e0; clear e0
        go_wp2
        refine ⟨⟨k + 1, some ⟨b2, off2, none⟩, 0, hk', by rw [HN'.out, HDN.out], by rw [HN'.out, HD'.out, HE0.out, HDN.out]; exact hr0, by simpa [Value.ownBlock] using hbn, HROW3.out, HG3.out, HT3.out⟩, ?_⟩
        show 0 < D.length
        omega
      · have h64' : 64 < ck := by omega
        have hr0 := Rd_drop (k := 64) hrd3 hge
        go_wp2
        refine ⟨⟨k + 1, some ⟨b2, off2 + 64, none⟩, ck - 64, hk', by rw [HN'.out], by rw [HN'.out, HD'.out]; exact hr0, by simpa [Value.ownBlock] using hbn, HROW3.out, HG3.out, HT3.out⟩, ?_⟩
        show D.length - 64 < D.length
        omega
    · have hDl64 : D.length < 64 := by omega
      have hkk : k = C.length / 64 := by have := HDL.out; omega
      have hRS : rs (all ++ l) = D := by rw [rs_append, HR.out, ← HC.out, ← hkk, HD.out]
      have hST : st (all ++ l) = Hk := by rw [st_append, HR.out, ← HC.out, ← hkk, HHK.out]
      have HRS := Lib.hid hRS
      have HST := Lib.hid hST
      have HROWK2 := Lib.hid (lt_of_heap ROWK.out)
      have hown := World.ownsRow_lit (base := wr.heap.size) (e := 5) (size := 1) wr #[] 0 (Nat.le_refl _) (Nat.zero_le _) rfl
      have hrk' := hrk.kept (World.grownBy_alloc wr (.cells #[] 5) none) (by cases qk <;> simp [Value.ownBlock])
      have hnge : ¬ (64 : Int) ≤ (D.length : Int) := by omega
      have HGK := Lib.hid hgk
      have HNK := Lib.hid hnk
      clear hkk hRS hST hgk hnk hk hTk
      go_wp2_with (at_builtin; refine app_own rfl _ _ 24 rfl wr.heap.size 5 i0 (.int .u8 0) 1 1 Tryd.underlying24 hi hz0 hz1 hz2 rfl (by decide) _ 0 [] rfl hown _ D.length (bys D) rfl hrk' (bys_one D) (by unfold maxLen; omega) (by omega) (by simp) ?_; intro v3 w3 hown3 hg3 _; go_must (obtain ⟨q3, c3, rfl⟩ := Rd_form (Rd.of_own hown3)); go_must (have ROW3 : Hid (w3.heap[hb]? = some (.cells (cells Hk ++ #[.slice p R.length c0, .int .i64 ((all.length : Int) + (l.length : Int))]) t (0, 0))) := Lib.hid ((hg3.block hb (by have := HROWK2.out; simp; omega) (by intro e; have := HROWK2.out; have e' : hb = wr.heap.size := Option.some.inj e; omega)).trans ((Rg.heap_alloc_past _ _ _ HROWK2.out).trans ROWK.out))); go_must (have c83 : w3.cell? ⟨hb, 8, none⟩ = some (.slice p R.length c0) := (by rw [cell_of_row w3 hb 8 _ _ _ ROW3.out, Array.getElem?_append_right (by rw [cells_size, HPL.out]; omega), cells_size, HPL.out]; rfl)); go_must (have f83 : w3.frozen? ⟨hb, 8, none⟩ = false := frozen_of_row w3 hb 8 _ _ ROW3.out))
      rw [Nat.zero_add] at hown3
      have hnb : (Value.slice q3 D.length c3).ownBlock ≠ some hb := by
        intro e
        have := (hown3.lt hb e).1
        have := HROWK2.out
        omega
      have hbel : Below wr.heap.size wr w3 := ((Below.refl _ _).alloc (Nat.le_refl _) _).grown hg3 (by simp) (fun k hk => by have e' : wr.heap.size = k := Option.some.inj hk; omega)
      go_end0
      refine ⟨rfl, ?_, ?_⟩
      · unfold HashAt
        rw [HRS.out, HST.out]
        refine ⟨q3, c3, t, ?_, ?_, ?_⟩
        · rw [heap_setCell_same _ _ _ _ _ _ ROW3.out, set_prev _ _ _ _ _ (by rw [cells_size, HPL.out]), List.length_append]; rfl
        · exact (Rd.of_own hown3).kept (grown_setCell w3 hb 8 _) (.inr hnb)
        · exact hnb
      · exact grown_trans HGK.out (grown_trans (grown_below hbel (some hb)) (grown_setCell _ _ _ _))
end Sha
end Go.Proofs.YtmkoiddfkanmiaaDoor

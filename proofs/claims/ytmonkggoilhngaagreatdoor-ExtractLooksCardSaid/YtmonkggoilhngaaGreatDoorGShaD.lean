/- The walks of sha2's Hash: New, Write. -/
import Derived.Test.YtmonkggoilhngaaGreatDoorGShaA
import Derived.Test.YtmonkggoilhngaaGreatDoorGRegion
namespace Go.Proofs.YtmonkggoilhngaaGreatDoor
open Go.RowKit Bits Mem
namespace Sha
theorem info1 : (Tryz.prog.info? 5).map (fun i => (i.zero, i.size, i.bytes)) = some (some (.int .u8 0), 1, 1) := by kernel_rfl
def HashAt (w : World) (hb : Nat) (all : List UInt8) : Prop :=
  ∃ p c t, w.heap[hb]? = some (.cells (cells (st all) ++ #[.slice p (rs all).length c, .int .i64 (all.length : Int)]) t (0, 0)) ∧
    Rd w 1 (.slice p (rs all).length c) (rs all).length (bys (rs all)) ∧ (Value.slice p (rs all).length c).ownBlock ≠ some hb
theorem set_last (A : Array Value) (a b v : Value) (n : Nat) (hA : A.size + 1 = n) : (A ++ #[a, b]).setIfInBounds n v = A ++ #[a, v] := by
  subst hA
  apply Array.ext'
  simp
theorem set_prev (A : Array Value) (a b v : Value) (n : Nat) (hA : A.size = n) : (A ++ #[a, b]).setIfInBounds n v = A ++ #[v, b] := by
  subst hA
  apply Array.ext'
  simp
theorem row_words (A B : List (BitVec 32)) (a b : Value) (hA : A.length = 8) (hB : B.length = 8) :
    ((cells A ++ #[a, b]).toList.take 0 ++ (cells B).toList ++ (cells A ++ #[a, b]).toList.drop (0 + (cells B).size)).toArray = cells B ++ #[a, b] := by
  apply Array.ext'
  simp [cells, hA, hB]
theorem Tabs.ne {w : World} (h : Tabs w) {hb : Nat} {A : List (BitVec 32)} {a b : Value} {t : TypeId} {f : Nat × Nat} (hr : w.heap[hb]? = some (.cells (cells A ++ #[a, b]) t f)) (hA : A.length = 8) :
    (0 : Nat) ≠ hb ∧ (1 : Nat) ≠ hb := by
  obtain ⟨t1, f1, h1⟩ := h.start
  obtain ⟨t2, f2, h2⟩ := h.rounds
  constructor
  · intro e; rw [e, hr] at h1
    have := congrArg (fun o : Option Obj => match o with | some (.cells c _ _) => c.size | _ => 0) h1
    simp [cells, hA] at this
    rw [HH_length] at this; omega
  · intro e; rw [e, hr] at h2
    have := congrArg (fun o : Option Obj => match o with | some (.cells c _ _) => c.size | _ => 0) h2
    simp [cells, hA] at this
    rw [KK_length] at this; omega
theorem Tabs.grown {w w' : World} (h : Tabs w) {hb : Nat} (hg : w.grownBy w' (some hb)) (h1 : (0 : Nat) ≠ hb) (h2 : (1 : Nat) ≠ hb) : Tabs w' := by
  obtain ⟨t, f, k1⟩ := h.start
  obtain ⟨t', f', k2⟩ := h.rounds
  exact ⟨⟨t, f, (hg.block _ h.lt1 (by simpa using h1)).trans k1⟩, ⟨t', f', (hg.block _ h.lt2 (by simpa using h2)).trans k2⟩⟩
theorem Rd_form {w : World} {size : Nat} {v : Value} {n : Nat} {xs : List Value} (h : Rd w size v n xs) : ∃ p c, v = .slice p n c := by
  rcases h.2 with ⟨rfl, rfl⟩ | ⟨b, off, cap, rfl, _⟩
  · exact ⟨_, _, rfl⟩
  · exact ⟨_, _, rfl⟩
theorem Rd_cut {w : World} {size : Nat} {p : Option Addr} {c n : Nat} {xs : List Value} (h : Rd w size (.slice p n c) n xs) : Rd w size (.slice p n n) n xs := by
  refine ⟨h.1, ?_⟩
  rcases h.2 with ⟨hv, rfl⟩ | ⟨b, off, cap, hv, hb, hnc, hcm, hc⟩
  · cases hv; exact .inl ⟨rfl, rfl⟩
  · cases hv; exact .inr ⟨b, off, n, rfl, hb, Nat.le_refl _, Nat.le_trans hnc hcm, hc⟩
theorem grown_trans {a b c : World} {r : Option Nat} (h : a.grownBy b r) (k : b.grownBy c r) : a.grownBy c r :=
  ⟨k.os.trans h.os, k.tape.trans h.tape, k.output.trans h.output, Nat.le_trans h.size k.size, fun i hi hne => (k.block i (Nat.lt_of_lt_of_le hi h.size) hne).trans (h.block i hi hne)⟩
theorem grown_below {a b : World} (h : Below a.heap.size a b) (r : Option Nat) : a.grownBy b r := ⟨h.os, h.tape, h.output, h.size, fun k hk _ => h.block k hk⟩
theorem grown_setCell (a : World) (g o : Nat) (v : Value) : a.grownBy (a.setCell ⟨g, o, none⟩ v) (some g) :=
  ⟨rfl, rfl, rfl, by simp, fun k _ hne => heap_setCell_other _ _ _ _ (by intro e; apply hne; rw [e])⟩
theorem grown_setRow (a : World) (g : Nat) (c : Array Value) : a.grownBy (a.setRow g c) (some g) :=
  ⟨rfl, rfl, rfl, by simp, fun k _ hne => setRow_other _ _ _ _ (by intro e; apply hne; rw [e])⟩
def sliceLen : Value → Nat | .slice _ n _ => n | _ => 0
theorem Rd_lt {w : World} {size : Nat} {p : Option Addr} {c n : Nat} {xs : List Value} (h : Rd w size (.slice p n c) n xs) (h0 : 0 < n) :
    ∃ b off, p = some ⟨b, off, none⟩ ∧ b < w.heap.size ∧ n ≤ c ∧ c ≤ maxLen ∧ ∀ j u, xs[j]? = some u → w.cell? ⟨b, off + j, none⟩ = some u := by
  rcases h.2 with ⟨_, h1⟩ | ⟨b, off, cap, hv, hb, hnc, hcm, hc⟩
  · omega
  · have e := Value.slice.inj hv
    obtain ⟨e1, _, e3⟩ := e
    subst e1 e3
    exact ⟨b, off, rfl, hb, hnc, hcm, hc⟩
theorem Rd_drop {w : World} {b off c n k : Nat} {l : List UInt8} (h : Rd w 1 (.slice (some ⟨b, off, none⟩) n c) n (bys l)) (hk : k ≤ n) :
    Rd w 1 (.slice (some ⟨b, off + k, none⟩) (n - k) (c - k)) (n - k) (bys (l.drop k)) := by
  obtain ⟨h1, h2⟩ := h
  rw [bys_length] at h1
  refine ⟨by rw [bys_length, List.length_drop]; omega, ?_⟩
  rcases h2 with ⟨hv, _⟩ | ⟨b', off', cap, hv, hb, hnc, hcm, hc⟩
  · cases hv
  · cases hv
    refine .inr ⟨b, off + k, c - k, rfl, hb, by omega, by omega, fun j u hu => ?_⟩
    have : (bys l)[k + j]? = some u := by
      rw [← hu]; simp [bys, List.getElem?_drop]
    have := hc (k + j) u this
    rwa [show off + k + j = off + (k + j) by omega]
theorem Rd_none {w : World} {b off c : Nat} {n : Nat} {xs : List Value} (h : Rd w 1 (.slice (some ⟨b, off, none⟩) n c) n xs) (c' : Nat) (hc' : c' ≤ maxLen) : Rd w 1 (.slice (some ⟨b, off, none⟩) 0 c') 0 (bys []) := by
  refine ⟨rfl, ?_⟩
  rcases h.2 with ⟨hv, _⟩ | ⟨b', off', cap, hv, hb, _⟩
  · cases hv
  · cases hv; exact .inr ⟨b, off, c', rfl, hb, Nat.zero_le _, hc', fun j u hu => by simp [bys] at hu⟩
set_option maxRecDepth 100000 in
set_option maxHeartbeats 2000000 in
theorem write_any (hb : Nat) (all l : List UInt8) (q : Option Addr) (qc : Nat) (w : World) (hT : Tabs w) (hh : HashAt w hb all) (hl : Rd w 1 (.slice q l.length qc) l.length (bys l))
    (hq : (Value.slice q l.length qc).ownBlock ≠ some hb) (hsz : all.length + l.length ≤ 70368744177664) :
    Calls Tryz.prog 49 #[.pointer (some ⟨hb, 0, none⟩), .slice q l.length qc] w fun e w' => e = .returned (.tuple #[]) ∧ HashAt w' hb (all ++ l) ∧ w.grownBy w' (some hb) := by
  obtain ⟨p, c0, t, hrow, hrd, hne⟩ := hh
  have hn := st_length all
  have c8 : w.cell? ⟨hb, 8, none⟩ = some (.slice p (rs all).length c0) := by rw [cell_of_row w hb 8 _ _ _ hrow, Array.getElem?_append_right (by rw [cells_size]; omega), cells_size, hn]; rfl
  have c9 : w.cell? ⟨hb, 9, none⟩ = some (.int .i64 (all.length : Int)) := by rw [cell_of_row w hb 9 _ _ _ hrow, Array.getElem?_append_right (by rw [cells_size]; omega), cells_size, hn]; rfl
  have f9 : w.frozen? ⟨hb, 9, none⟩ = false := frozen_of_row w hb 9 _ _ hrow
  generalize hR : rs all = R at *
  have HR := Lib.hid hR; clear hR
  have HROW := Lib.hid hrow; clear hrow
  have hn' := Lib.hid hn; clear hn
  go_enter Tryz.func49, Tryz.ntmps49
  go_wp2
  obtain ⟨w1, hw1⟩ : ∃ w1, w1 = w.setCell ⟨hb, 9, none⟩ (.int .i64 ((all.length : Int) + (l.length : Int))) := ⟨_, rfl⟩
  rw [← hw1]
  have g1 : w.grownBy w1 (some hb) := by rw [hw1]; exact grown_setCell _ _ _ _
  have ROW1 : Hid (w1.heap[hb]? = some (.cells (cells (st all) ++ #[.slice p R.length c0, .int .i64 ((all.length : Int) + (l.length : Int))]) t (0, 0))) := Lib.hid (by
    rw [hw1, heap_setCell_same _ _ _ _ _ _ HROW.out, set_last _ _ _ _ _ (by rw [cells_size, hn'.out])])
  have hrd1 := hrd.kept g1 (.inr hne)
  have hl1 := hl.kept g1 (.inr hq)
  have hT1 := hT.grown g1 (hT.ne HROW.out hn'.out).1 (hT.ne HROW.out hn'.out).2
  have d8 : w1.cell? ⟨hb, 8, none⟩ = some (.slice p R.length c0) := by rw [cell_of_row w1 hb 8 _ _ _ ROW1.out, Array.getElem?_append_right (by rw [cells_size, hn'.out]; omega), cells_size, hn'.out]; rfl
  have hRl : R.length ≤ 64 := by rw [← HR.out, rs_length]; omega
  have hnn : R.length ≤ c0 := by
    rcases hrd.2 with ⟨hv, h0⟩ | ⟨_, _, _, hv, _, hnc, _⟩
    · omega
    · have := Value.slice.inj hv; omega
  have HW1 := Lib.hid hw1; clear hw1
  have HG1 := Lib.hid g1; clear g1
  clear c8 c9 f9 hrd hl hT
  obtain ⟨i0, hi, hz0, hz1, hz2⟩ := info_parts info1
  refine Rg.tail (fun w' => ∃ n, w' = (w1).drewN n) 16 (by kernel_rfl) (by kernel_rfl) ⟨0 + 1, rfl⟩ ?_; simp only [List.take_succ_cons, List.take_zero, List.drop_succ_cons, List.drop_zero]
  repeat (refine Rg.stepK rfl ?_; intro K hK; apply Exists.intro; refine ⟨?_, ?_⟩; (focus (intro w' hw'; obtain ⟨nq, rfl⟩ := hw'; go_simp; (first | (fail) | ((try go_bits); (try go_simp); (try rfl))))); go_simp; refine hK _ ?_; clear hK K)
  refine wpQuiet_nil ?_; intro w' hw'; obtain ⟨nq, rfl⟩ := hw'
  go_wp2_with (refine app_full rfl _ _ 23 rfl 5 i0 (.int .u8 0) 1 1 Tryz.underlying23 hi hz0 hz1 hz2 rfl p R.length (bys R) rfl (Rd_cut hrd1) _ l.length (bys l) rfl hl1 (bys_one l) (by unfold maxLen; omega) (by omega) ?_; intro v2 w2 hrd2 hbel2 hv2)
  obtain ⟨C, hC⟩ : ∃ C, C = R ++ l := ⟨_, rfl⟩
  have hrdC : Rd w2 1 v2 C.length (bys C) := by rw [hC, bys_append, List.length_append]; exact hrd2
  have hCl : C.length = R.length + l.length := by rw [hC, List.length_append]
  obtain ⟨q2, c2, rfl⟩ := Rd_form hrdC
  have hhb : hb < w1.heap.size := lt_of_heap ROW1.out
  have hne2 : (Value.slice q2 C.length c2).ownBlock ≠ some hb := by
    rcases hv2 with hv2 | ⟨g, cap, hv2, hg⟩
    · rw [hv2]
      cases p
      · simp [Value.ownBlock]
      · simpa [Value.ownBlock] using hne
    · rw [hv2]; simp [Value.ownBlock]
      have : w1.heap.size ≤ g := hg
      omega
  have hbel2' : Below w1.heap.size w1 w2 := ⟨hbel2.os, hbel2.tape, hbel2.output, hbel2.size, hbel2.block⟩
  have hg2 := grown_trans HG1.out (grown_below hbel2' (some hb))
  have hT2 := hT1.below hbel2'
  have ROW2 := Lib.hid (Rg.below_row hbel2' hhb ROW1.out)
  have HC := Lib.hid hC
  have HCL := Lib.hid hCl
  have HT2 := Lib.hid hT2
  clear hv2 hbel2 hrd1 hl1 hT1 d8 hrd2 hbel2' hC hCl hT2
  go_loopw [4] (fun v wr => ∃ k q c, 64 * k ≤ C.length ∧ v = .slice q (C.length - 64 * k) c ∧ Rd wr 1 (.slice q (C.length - 64 * k) c) (C.length - 64 * k) (bys (C.drop (64 * k))) ∧ (Value.slice q (C.length - 64 * k) c).ownBlock ≠ some hb ∧
      wr.heap[hb]? = some (.cells (cells (pressN k (st all) C) ++ #[.slice p R.length c0, .int .i64 ((all.length : Int) + (l.length : Int))]) t (0, 0)) ∧ w.grownBy wr (some hb) ∧ Tabs wr) (fun v _ => sliceLen v)
  case atStart => exact ⟨0, q2, c2, by omega, rfl, hrdC, hne2, ROW2.out, hg2, HT2.out⟩
  case round =>
    obtain ⟨k, qk, ck, hk, rfl, hrk, hnk, hrowk, hgk, hTk⟩ := hrel
    obtain ⟨D, hD⟩ : ∃ D, D = C.drop (64 * k) := ⟨_, rfl⟩
    have hDl : C.length - 64 * k = D.length := by rw [hD, List.length_drop]
    have HD := Lib.hid hD
    rw [← hD] at hrk
    rw [hDl] at hrk hnk ⊢
    clear hD
    have HDL := Lib.hid hDl; clear hDl
    have hPl : (pressN k (st all) C).length = 8 := by rw [pressN_length]; exact hn'.out
    obtain ⟨Hk, hHk⟩ : ∃ Hk, Hk = pressN k (st all) C := ⟨_, rfl⟩
    rw [← hHk] at hrowk hPl
    have HHK := Lib.hid hHk; clear hHk
    have ROWK := Lib.hid hrowk; clear hrowk
    have HPL := Lib.hid hPl; clear hPl
    have hDm : D.length ≤ 70368744177728 := by rw [← HDL.out]; have := HCL.out; omega
    by_cases hge : 64 ≤ D.length
    · obtain ⟨b2, off2, rfl, hb2, hnc, hcm, hcell⟩ := Rd_lt hrk (by omega)
      have hbn : b2 ≠ hb := by simpa [Value.ownBlock] using hnk
      have HPR : Hid (∀ w', Below wr.heap.size wr w' → Calls Tryz.prog 72 #[.agg (cells Hk), .slice (some ⟨b2, off2, none⟩) 64 ck] w' fun e w'' => e = .returned (.agg (cells (press Hk (D.take 64)))) ∧ Below wr.heap.size wr w'') := Lib.hid (fun w' hw' => by
        refine (press_any Hk (D.take 64) b2 off2 64 ck w' HPL.out (hTk.below hw') (by rw [List.length_take]; omega) (by rw [List.length_take]; omega) (by omega) ?_ ?_).mono fun e w'' h => ⟨h.1, hw'.trans (h.2.mono hw'.size)⟩
        · unfold maxLen at hcm; omega
        · intro j hj
          rw [hw'.cell (p := ⟨b2, off2 + j, none⟩) hb2]
          refine hcell j _ ?_
          rw [bys_get D j (by omega)]
          simp [bt, List.getD, hj])
      have HLD : Hid (∀ w', Below wr.heap.size wr w' → (Instr.loadAt 129 (.pointer (some ⟨hb, 0, none⟩))).run Tryz.prog w' = .ok (.agg (cells Hk)) w') := Lib.hid (fun w' hw' => by
        have hrow' := Rg.below_row hw' (lt_of_heap ROWK.out) ROWK.out
        refine run_loadAt_mid w' hb 0 _ (cells Hk).toList _ ?_ Tryz.underlying129 rfl ?_
        · intro j v hv
          rw [cell_of_row w' hb (0 + j) _ _ _ hrow']
          have hj : j < (cells Hk).size := by have := (List.getElem?_eq_some_iff.1 hv).1; simpa using this
          rw [Nat.zero_add, Array.getElem?_append_left hj]; simpa using hv
        · rw [Array.length_toList, cells_size, HPL.out]; exact info8)
      have hgei : (64 : Int) ≤ (D.length : Int) := by omega
      have hlt64 : 64 ≤ ck := by omega
      have hlt65 : (64 : Int) ≤ (ck : Int) := by omega
      have HCELL := Lib.hid hcell; clear hcell
      have hcm2 : ck ≤ 9223372036854775807 := by unfold maxLen at hcm; exact hcm
      go_wp2
      refine Rg.tail (fun w' => RowKit.Below (wr).heap.size (wr) w') 10 (by kernel_rfl) (by kernel_rfl) ((RowKit.Below.refl _ _).drew) ?_; simp only [List.take_succ_cons, List.take_zero, List.drop_succ_cons, List.drop_zero]
      repeat (first | (refine Mem.q_load rfl _ _ rfl _ (HLD.out) ?_; intro K hK; go_simp; refine hK _ ?_; clear hK K) | (refine Rg.stepK rfl ?_; intro K hK; apply Exists.intro; refine ⟨?_, ?_⟩; (focus (intro w' hw';  go_simp; (first | (go_at_call 72; exact HPR.out _ hw') | ((try go_bits); (try go_simp); (try rfl))))); go_simp; refine hK _ ?_; clear hK K))
      refine wpQuiet_nil ?_; intro w' hw'
      have roww := Rg.below_row hw' (lt_of_heap ROWK.out) ROWK.out
      have hPP : (press Hk (D.take 64)).length = 8 := by rw [press_length]; exact HPL.out
      have HROWW := Lib.hid roww; clear roww
      have HPP := Lib.hid hPP; clear hPP
      refine Rg.store_part rfl 129 _ _ rfl hb 0 rfl t _ (cells (press Hk (D.take 64))) rfl HROWW.out (by rw [cells_size, HPP.out]; exact info8) (by rw [cells_size, HPP.out, Array.size_append, cells_size, HPL.out]; show 0 + 8 ≤ 8 + 2; omega) (cells_one _) ?_
      rw [row_words _ _ _ _ HPL.out HPP.out]
      obtain ⟨w3, hw3⟩ : ∃ w3, w3 = w'.setRow hb (cells (press Hk (D.take 64)) ++ #[.slice p R.length c0, .int .i64 ((all.length : Int) + (l.length : Int))]) := ⟨_, rfl⟩
      rw [← hw3]
      have g3 : wr.grownBy w3 (some hb) := grown_trans (grown_below hw' (some hb)) (by rw [hw3]; exact grown_setRow _ _ _)
      have row3 : w3.heap[hb]? = some (.cells (cells (pressN (k + 1) (st all) C) ++ #[.slice p R.length c0, .int .i64 ((all.length : Int) + (l.length : Int))]) t (0, 0)) := by
        rw [hw3, setRow_heap _ _ _ _ _ _ HROWW.out, pressN_succ, ← HHK.out, ← HD.out]
      have hT3 := hTk.grown g3 (hTk.ne ROWK.out HPL.out).1 (hTk.ne ROWK.out HPL.out).2
      have hrd3 : Rd w3 1 (.slice (some ⟨b2, off2, none⟩) D.length ck) D.length (bys D) := hrk.kept g3 (.inr (by simpa [Value.ownBlock] using hbn))
      have hD' : C.drop (64 * (k + 1)) = D.drop 64 := by rw [HD.out, List.drop_drop]; congr 1
      have hN' : C.length - 64 * (k + 1) = D.length - 64 := by have := HDL.out; omega
      have hk' : 64 * (k + 1) ≤ C.length := by have := HDL.out; omega
      have HN' := Lib.hid hN'
      have HD' := Lib.hid hD'
      have HROW3 := Lib.hid row3
      have HT3 := Lib.hid hT3
      have HG3 := Lib.hid (grown_trans hgk g3)
      have HNM := Lib.hid hcm
      clear hw3 g3 row3 hT3 hD' hN' hcm hgk hTk hw'
      by_cases h64 : ck = 64
      · subst h64
        have hDn : D.length = 64 := by omega
        have hr0 := Rd_none hrd3 0 (Nat.zero_le _)
        have HDN := Lib.hid hDn; clear hDn
        have e0 : D.drop 64 = [] := List.drop_of_length_le (by rw [HDN.out]; exact Nat.le_refl _)
        have HE0 := Lib.hid e0; clear e0
        go_wp2
        refine ⟨⟨k + 1, some ⟨b2, off2, none⟩, 0, hk', by rw [HN'.out, HDN.out], by rw [HN'.out, HD'.out, HE0.out, HDN.out]; exact hr0, by simpa [Value.ownBlock] using hbn, HROW3.out, HG3.out, HT3.out⟩, ?_⟩
        show 0 < D.length
        omega
      · have h64' : 64 < ck := by omega
        have hr0 := Rd_drop (k := 64) hrd3 hge
        go_wp2
        refine ⟨⟨k + 1, some ⟨b2, off2 + 64, none⟩, ck - 64, hk', by rw [HN'.out], by rw [HN'.out, HD'.out]; exact hr0, by simpa [Value.ownBlock] using hbn, HROW3.out, HG3.out, HT3.out⟩, ?_⟩
        show D.length - 64 < D.length
        omega
    · have hDl64 : D.length < 64 := by omega
      have hkk : k = C.length / 64 := by have := HDL.out; omega
      have hRS : rs (all ++ l) = D := by rw [rs_append, HR.out, ← HC.out, ← hkk, HD.out]
      have hST : st (all ++ l) = Hk := by rw [st_append, HR.out, ← HC.out, ← hkk, HHK.out]
      have HRS := Lib.hid hRS
      have HST := Lib.hid hST
      have HROWK2 := Lib.hid (lt_of_heap ROWK.out)
      have hown := World.ownsRow_lit (base := wr.heap.size) (e := 5) (size := 1) wr #[] 0 (Nat.le_refl _) (Nat.zero_le _) rfl
      have hrk' := hrk.kept (World.grownBy_alloc wr (.cells #[] 5) none) (by cases qk <;> simp [Value.ownBlock])
      have hnge : ¬ (64 : Int) ≤ (D.length : Int) := by omega
      have HGK := Lib.hid hgk
      have HNK := Lib.hid hnk
      clear hkk hRS hST hgk hnk hk hTk
      go_wp2_with (at_builtin; refine app_own rfl _ _ 23 rfl wr.heap.size 5 i0 (.int .u8 0) 1 1 Tryz.underlying23 hi hz0 hz1 hz2 rfl (by decide) _ 0 [] rfl hown _ D.length (bys D) rfl hrk' (bys_one D) (by unfold maxLen; omega) (by omega) (by simp) ?_; intro v3 w3 hown3 hg3 _; go_must (obtain ⟨q3, c3, rfl⟩ := Rd_form (Rd.of_own hown3)); go_must (have ROW3 : Hid (w3.heap[hb]? = some (.cells (cells Hk ++ #[.slice p R.length c0, .int .i64 ((all.length : Int) + (l.length : Int))]) t (0, 0))) := Lib.hid ((hg3.block hb (by have := HROWK2.out; simp; omega) (by intro e; have := HROWK2.out; have e' : hb = wr.heap.size := Option.some.inj e; omega)).trans ((Rg.heap_alloc_past _ _ _ HROWK2.out).trans ROWK.out))); go_must (have c83 : w3.cell? ⟨hb, 8, none⟩ = some (.slice p R.length c0) := (by rw [cell_of_row w3 hb 8 _ _ _ ROW3.out, Array.getElem?_append_right (by rw [cells_size, HPL.out]; omega), cells_size, HPL.out]; rfl)); go_must (have f83 : w3.frozen? ⟨hb, 8, none⟩ = false := frozen_of_row w3 hb 8 _ _ ROW3.out))
      rw [Nat.zero_add] at hown3
      have hnb : (Value.slice q3 D.length c3).ownBlock ≠ some hb := by
        intro e
        have := (hown3.lt hb e).1
        have := HROWK2.out
        omega
      have hbel : Below wr.heap.size wr w3 := ((Below.refl _ _).alloc (Nat.le_refl _) _).grown hg3 (by simp) (fun k hk => by have e' : wr.heap.size = k := Option.some.inj hk; omega)
      go_end0
      refine ⟨rfl, ?_, ?_⟩
      · unfold HashAt
        rw [HRS.out, HST.out]
        refine ⟨q3, c3, t, ?_, ?_, ?_⟩
        · rw [heap_setCell_same _ _ _ _ _ _ ROW3.out, set_prev _ _ _ _ _ (by rw [cells_size, HPL.out]), List.length_append]; rfl
        · exact (Rd.of_own hown3).kept (grown_setCell w3 hb 8 _) (.inr hnb)
        · exact hnb
      · exact grown_trans HGK.out (grown_trans (grown_below hbel (some hb)) (grown_setCell _ _ _ _))
end Sha
end Go.Proofs.YtmonkggoilhngaaGreatDoor
/- The walks of sha2's Hash: New, Sum. -/
namespace Go.Proofs.YtmonkggoilhngaaGreatDoor
open Go.RowKit Bits Mem
namespace Sha
theorem built_new : Tryz.prog.built 131 [(0, .agg (cells HH))] = some (cells HH ++ #[.slice none 0 0, .int .i64 0]) := by kernel_rfl
set_option maxRecDepth 100000 in
set_option maxHeartbeats 400000 in
theorem new_any (w : World) (hT : Tabs w) :
    Calls Tryz.prog 48 #[] w fun e w' => ∃ hb, e = .returned (.pointer (some ⟨hb, 0, none⟩)) ∧ HashAt w' hb [] ∧ w.heap.size ≤ hb ∧ Below w.heap.size w w' := by
  obtain ⟨t, f, hrow⟩ := hT.start
  have HROW := Lib.hid hrow; clear hrow
  go_enter Tryz.func48, Tryz.ntmps48
  go_wp2_with (first | (refine wpList_load_row rfl 129 _ rfl 0 rfl t (cells HH) f _ HROW.out Tryz.underlying129 rfl info8 ?_) | (refine wpList_build rfl 131 _ rfl (by exact (congrArg Option.isSome built_new)) ?_))
  go_ret
  refine ⟨w.heap.size, rfl, ⟨none, 0, 131, ?_, Rd.nil _ _, by simp [Value.ownBlock]⟩, Nat.le_refl _, (Below.refl _ _).alloc (Nat.le_refl _) _⟩
  exact (Rg.heap_alloc_at _ _ _ rfl).trans (congrArg (fun c => some (Obj.cells c 131 (0, 0))) (by kernel_rfl))
def bysA (l : List UInt8) : Array Value := (bys l).toArray
def zeros32 : List UInt8 := List.replicate 32 0
@[go_sem] theorem u32_shr24 (a : BitVec 32) : n32 a / (16777216 : Int) = n32 (a >>> 24) := u32_shr a 24
@[go_sem] theorem u32_shr16 (a : BitVec 32) : n32 a / (65536 : Int) = n32 (a >>> 16) := u32_shr a 16
@[go_sem] theorem u32_shr8 (a : BitVec 32) : n32 a / (256 : Int) = n32 (a >>> 8) := u32_shr a 8
@[go_sem] theorem u32_by8 (a : BitVec 32) : n32 a % (256 : Int) = ((by8 a).toNat : Int) := by
  unfold n32 by8; rw [UInt8.toNat_ofNat']; omega
@[go_sem] theorem u32_by8' (a : BitVec 32) : IntKind.u8.wrap (n32 a) = ((by8 a).toNat : Int) := by
  rw [IntKind.wrap_u8', u32_by8]
def outk (H : List (BitVec 32)) (k : Nat) : List UInt8 := outb (H.take k) ++ List.replicate (32 - 4 * k) 0
theorem outk_length (H : List (BitVec 32)) (hH : H.length = 8) (k : Nat) (hk : k ≤ 8) : (outk H k).length = 32 := by
  unfold outk; rw [List.length_append, outb_length, List.length_take, List.length_replicate]; omega
theorem outk_zero (H : List (BitVec 32)) : outk H 0 = zeros32 := by simp [outk, outb, zeros32]
theorem outk_full (H : List (BitVec 32)) (hH : H.length = 8) : outk H 8 = outb H := by
  unfold outk; rw [List.take_of_length_le (by omega)]; simp
theorem outk_get (H : List (BitVec 32)) (hH : H.length = 8) (k i : Nat) (hk : k < 8) (hi : i < 4) : (bysA (outk H k))[4 * k + i]? = some (.int .u8 0) := by
  have hl : (outb (H.take k)).length = 4 * k := by rw [outb_length, List.length_take]; omega
  unfold bysA bys outk
  simp only [List.getElem?_toArray, List.getElem?_map]
  rw [List.getElem?_append_right (by omega), hl, List.getElem?_replicate, if_pos (by omega)]
  rfl
theorem outk_set (H : List (BitVec 32)) (hH : H.length = 8) (k : Nat) (hk : k < 8) :
    ((((bysA (outk H k)).setIfInBounds (4 * k) (.int .u8 ((by8 (rd H k >>> 24)).toNat : Int))).setIfInBounds (4 * k + 1) (.int .u8 ((by8 (rd H k >>> 16)).toNat : Int))).setIfInBounds (4 * k + 2) (.int .u8 ((by8 (rd H k >>> 8)).toNat : Int))).setIfInBounds (4 * k + 3) (.int .u8 ((by8 (rd H k)).toNat : Int)) = bysA (outk H (k + 1)) := by
  have hl : (outb (H.take k)).length = 4 * k := by rw [outb_length, List.length_take]; omega
  have ht : H.take (k + 1) = H.take k ++ [rd H k] := by
    rw [List.take_succ_eq_append_getElem (by omega)]; simp [rd, List.getD, hH, hk]
  have e1 : outk H k = outb (H.take k) ++ ([0, 0, 0, 0] ++ List.replicate (32 - 4 * (k + 1)) 0) := by
    unfold outk
    rw [show 32 - 4 * k = 4 + (32 - 4 * (k + 1)) from by omega, ← List.replicate_append_replicate]; rfl
  have e2 : outk H (k + 1) = outb (H.take k) ++ (four (rd H k) ++ List.replicate (32 - 4 * (k + 1)) 0) := by
    unfold outk
    rw [ht, outb_append, List.append_assoc]; simp [outb]
  rw [e1, e2]
  apply Array.ext'
  have hl' : (List.map (fun b : UInt8 => Value.int .u8 (b.toNat : Int)) (outb (H.take k))).length = 4 * k := by rw [List.length_map]; exact hl
  simp only [bysA, bys, List.map_append, Array.toList_setIfInBounds]
  rw [List.set_append_right _ _ (by omega), List.set_append_right _ _ (by omega), List.set_append_right _ _ (by omega), List.set_append_right _ _ (by omega), hl']
  rw [show 4 * k - 4 * k = 0 from by omega, show 4 * k + 1 - 4 * k = 1 from by omega, show 4 * k + 2 - 4 * k = 2 from by omega, show 4 * k + 3 - 4 * k = 3 from by omega]
  rfl
theorem run_idx (H : List (BitVec 32)) (hH : H.length = 8) (i : Nat) (hi : i < 8) (w : World) :
    (Instr.index 129 (.agg (cells H)) (.int .i64 (i : Int))).run Tryz.prog w = .ok (.int .u32 (n32 (rd H i))) w := by
  have hg := cells_get H i (by omega)
  obtain ⟨i0, h1, h2⟩ : ∃ i0, Tryz.prog.info? 128 = some i0 ∧ i0.size = 1 := by
    have : (Tryz.prog.info? 128).map (·.size) = some 1 := by kernel_rfl
    obtain ⟨i0, h1, h2⟩ := Option.map_eq_some_iff.1 this
    exact ⟨i0, h1, h2⟩
  simp [Instr.index, asIntOf, Sem.run_bind, run_underlying Tryz.underlying129, run_underlying Tryz.underlying128, sizeOf, typeInfo, h1, h2, part, isAgg, hg]
  intro h; omega
theorem info32 : (Tryz.prog.info? 22).map (·.size) = some 32 := by kernel_rfl
theorem bysA_size (l : List UInt8) : (bysA l).size = l.length := by simp [bysA, bys]
theorem bysA_one (l : List UInt8) : (bysA l).all (·.oneCell') = true := by
  rw [Array.all_eq_true_iff_forall_mem]; intro v hv; exact bys_one l v (by simpa [bysA] using hv)
set_option maxRecDepth 100000 in
set_option maxHeartbeats 2000000 in
theorem sum_some (hb : Nat) (all : List UInt8) (w : World) (hT : Tabs w) (hh : HashAt w hb all) (hsz : all.length ≤ 70368744177664) :
    Calls Tryz.prog 50 #[.pointer (some ⟨hb, 0, none⟩)] w fun e w' => e = .returned (.agg (bysA (sha all))) ∧ Below w.heap.size w w' := by
  obtain ⟨p, c0, t, hrow, hrd, hne⟩ := hh
  have hn := st_length all
  have hhb := lt_of_heap hrow
  have c8 : w.cell? ⟨hb, 8, none⟩ = some (.slice p (rs all).length c0) := by rw [cell_of_row w hb 8 _ _ _ hrow, Array.getElem?_append_right (by rw [cells_size]; omega), cells_size, hn]; rfl
  generalize hR : rs all = R at *
  have HR := Lib.hid hR; clear hR
  have hRl : R.length ≤ 64 := by rw [← HR.out, rs_length]; omega
  have HROW := Lib.hid hrow; clear hrow
  have hn' := Lib.hid hn; clear hn
  obtain ⟨i0, hi, hz0, hz1, hz2⟩ := info_parts info1
  go_enter Tryz.func50, Tryz.ntmps50
  have c9 : w.cell? ⟨hb, 9, none⟩ = some (.int .i64 (all.length : Int)) := by rw [cell_of_row w hb 9 _ _ _ HROW.out, Array.getElem?_append_right (by rw [cells_size, hn'.out]; omega), cells_size, hn'.out]; rfl
  have hbw0 : Below w.heap.size w ((w.alloc (.cells (bysA zeros32) 22)).alloc (.cells #[] 5)) := ((Below.refl _ _).alloc (Nat.le_refl _) _).alloc (by simp) _
  have hown0 := World.ownsRow_lit (base := w.heap.size + 1) (e := 5) (size := 1) (w.alloc (.cells (bysA zeros32) 22)) #[] 0 (by simp) (Nat.zero_le _) rfl
  rw [World.size_alloc] at hown0
  have hrd0 := hrd.below hbw0
  have hlit : ∀ (b : UInt8) (w1 : World), Rd (w1.alloc (.cells #[.int .u8 (b.toNat : Int)] 5)) 1 (.slice (some ⟨w1.heap.size, 0, none⟩) 1 1) 1 (bys [b]) := fun b w1 => Rd_lit w1 #[.int .u8 (b.toNat : Int)] 5 1 1 rfl (by decide)
  have HLIT := Lib.hid hlit
  have HOWN0 := Lib.hid hown0
  obtain ⟨W0, hW0⟩ : ∃ W0, W0 = w.alloc (.cells (bysA zeros32) 22) := ⟨_, rfl⟩
  have HW0 := Lib.hid hW0
  have hB0 : Below (w.heap.size + 1) W0 (w.alloc (.cells (bysA zeros32) 22)) := by rw [hW0]; exact Below.refl _ _
  have hs0 : W0.heap.size = w.heap.size + 1 := by rw [hW0, World.size_alloc]
  have hbW : Below w.heap.size w W0 := by rw [hW0]; exact (Below.refl _ _).alloc (Nat.le_refl _) _
  have hrow0 : W0.heap[w.heap.size]? = some (.cells (bysA zeros32) 22 (0, 0)) := by rw [hW0]; exact Rg.heap_alloc_at _ _ _ rfl
  have HB0 := Lib.hid hB0
  have HROW0 := Lib.hid hrow0
  have HS0 := Lib.hid hs0
  have HBW := Lib.hid hbW
  clear hbw0 hlit hB0 hrow0 hs0 hbW hown0 hW0
  go_wp2_with (first | (at_builtin; have tk0 := HOWN0.out; go_must (refine Mem.app_own rfl _ _ 23 rfl (w.heap.size + 1) 5 i0 (.int .u8 0) 1 1 Tryz.underlying23 hi hz0 hz1 hz2 rfl (by decide) _ _ _ rfl tk0 _ _ _ rfl hrd0 (bys_one R) (by unfold maxLen; omega) (by omega) (by simp) ?_); intro v1 w1 hown1 hg1 _; rw [Nat.zero_add, List.nil_append] at hown1; go_must (have hb1 : Below (w.heap.size + 1) W0 w1 := (below_app HB0.out (by simp) tk0 (Nat.le_refl _) hg1)); go_must (have hs1 : w.heap.size + 1 ≤ w1.heap.size := (by have := hb1.size; rw [HS0.out] at this; exact this)); clear HOWN0 hg1 tk0) | (at_builtin; go_must (have ho1 := hown1.alloc (.cells #[.int .u8 ((128 : UInt8).toNat : Int)] 5)); go_must (refine Mem.app_own rfl _ _ 23 rfl (w.heap.size + 1) 5 i0 (.int .u8 0) 1 1 Tryz.underlying23 hi hz0 hz1 hz2 rfl (by decide) _ _ _ rfl ho1 _ _ _ rfl (HLIT.out 128 _) (bys_one [128]) (by unfold maxLen; omega) (by omega) (by rw [World.size_alloc]; omega) ?_); go_must (intro v2 w2 hown2 hg2 _); go_must (obtain ⟨q2, c2, rfl⟩ := Rd_form (Rd.of_own hown2)); go_must (have hb2 : Below (w.heap.size + 1) W0 w2 := (below_app hb1 hs1 ho1 (Nat.le_refl _) hg2)); clear hown1 ho1 hg2))
  have hs2 : w.heap.size + 1 ≤ w2.heap.size := by have := hb2.size; rw [HS0.out] at this; exact this
  rw [← bys_append] at hown2
  clear hb1 hs1 hrd0 c8 c9 hrd
  go_loopw [3] (fun v wr => ∃ j q c, j ≤ zc R.length ∧ v = .slice q (R.length + 1 + j) c ∧ wr.ownsRow (w.heap.size + 1) 5 1 (.slice q (R.length + 1 + j) c) (R.length + 1 + j) (bys (padz R j)) ∧ Below (w.heap.size + 1) W0 wr) (fun v _ => 200 - sliceLen v)
  case atStart => exact ⟨0, q2, c2, Nat.zero_le _, rfl, hown2, hb2⟩
  case round =>
    obtain ⟨j, q, c, hj, rfl, hown, hbel⟩ := hrel
    obtain ⟨N, hN⟩ : ∃ N, N = R.length + 1 + j := ⟨_, rfl⟩
    rw [← hN] at hown ⊢
    have hzl := zc_le R.length
    have hzs := zc_spec R.length
    have hzf := zc_first R.length j
    have hsr : w.heap.size + 1 ≤ wr.heap.size := by have := hbel.size; rw [HS0.out] at this; exact this
    have hNb : N ≤ 200 := by omega
    by_cases hlt : j < zc R.length
    · have h56 : ((N : Int) % 64 == 56) = false := by rw [beq_eq_false_iff_ne]; omega
      have h56' : ((N : Int) % 64 != 56) = true := by rw [bne_iff_ne]; omega
      have HN := Lib.hid hN; clear hN hzs hzf
      go_wp2_with (at_builtin; have ho := hown.alloc (.cells #[.int .u8 ((0 : UInt8).toNat : Int)] 5); go_must (refine Mem.app_own rfl _ _ 23 rfl (w.heap.size + 1) 5 i0 (.int .u8 0) 1 1 Tryz.underlying23 hi hz0 hz1 hz2 rfl (by decide) _ _ _ rfl ho _ _ _ rfl (HLIT.out 0 _) (bys_one [0]) (by unfold maxLen; omega) (by omega) (by rw [World.size_alloc]; omega) ?_); go_must (intro v3 w3 hown3 hg3 _); go_must (obtain ⟨q3, c3, rfl⟩ := Rd_form (Rd.of_own hown3)); go_must (have hb3 : Below (w.heap.size + 1) W0 w3 := (below_app hbel hsr ho (Nat.le_refl _) hg3)); clear hown ho hg3)
      have HO3 := Lib.hid hown3; clear hown3
      refine ⟨⟨j + 1, q3, c3, by omega, by rw [HN.out]; rfl, ?_, hb3⟩, ?_⟩
      · rw [padz_succ, bys_append, show R.length + 1 + (j + 1) = N + 1 from by have := HN.out; omega]; exact HO3.out
      · show 200 - (N + 1) < 200 - N
        have := HN.out
        omega
    · have hj' : j = zc R.length := by omega
      have h56 : ((N : Int) % 64 == 56) = true := by rw [beq_iff_eq]; omega
      have h56' : ((N : Int) % 64 != 56) = false := by rw [bne_eq_false_iff_eq]; omega
      have HN : Hid (N = R.length + 1 + zc R.length) := Lib.hid (by omega)
      have HPZ : Hid (padz R j = padz R (zc R.length)) := Lib.hid (by rw [hj'])
      rw [HPZ.out] at hown
      clear hN hzs hzf hj' hj hlt
      go_wp2
      have hown' : wr.ownsRow (w.heap.size + 1) 5 1 (.slice q (N + 0) c) (N + 0) (bys (padz R (zc R.length) ++ be (8 * all.length) 0)) := by simpa [be] using hown
      clear hown
      go_loopw [3, 4] (fun v i wr => ∃ (m : Nat) (q : Option Addr) (c : Nat), m ≤ 8 ∧ i = .int .i64 (7 - (m : Int)) ∧ v = .slice q (N + m) c ∧ wr.ownsRow (w.heap.size + 1) 5 1 (.slice q (N + m) c) (N + m) (bys (padz R (zc R.length) ++ be (8 * all.length) m)) ∧ Below (w.heap.size + 1) W0 wr) (fun _ i _ => (intOf i + 1).toNat)
      case atStart => exact ⟨0, q, c, by omega, rfl, rfl, hown', hbel⟩
      case round =>
        obtain ⟨m, qm, cm, hm, rfl, rfl, hownm, hbelm⟩ := hrel
        have hsm : w.heap.size + 1 ≤ wr.heap.size := by have := hbelm.size; rw [HS0.out] at this; exact this
        have c9m : wr.cell? ⟨hb, 9, none⟩ = some (.int .i64 (all.length : Int)) := by
          rw [hbelm.cell (p := ⟨hb, 9, none⟩) (by show hb < _; omega), HBW.out.cell (p := ⟨hb, 9, none⟩) hhb, cell_of_row w hb 9 _ _ _ HROW.out, Array.getElem?_append_right (by rw [cells_size, hn'.out]; omega), cells_size, hn'.out]; rfl
        by_cases hlt : m < 8
        · have hge : (0 : Int) ≤ 7 - (m : Int) := by omega
          obtain ⟨bq, hbq⟩ : ∃ bq, bq = UInt8.ofNat (8 * all.length / 2 ^ (8 * (7 - m))) := ⟨_, rfl⟩
          have hb8 : ((all.length : Int) * 8 / 2 ^ (8 * (7 - m)) % 256) = (bq.toNat : Int) := by
            rw [hbq, UInt8.toNat_ofNat', show 8 * all.length = all.length * 8 from Nat.mul_comm _ _]; simp
          have HBQ := Lib.hid hbq; clear hbq
          have hNm : N + m ≤ 300 := by omega
          go_wp2_with (at_builtin; have ho := hownm.alloc (.cells #[.int .u8 (bq.toNat : Int)] 5); go_must (refine Mem.app_own rfl _ _ 23 rfl (w.heap.size + 1) 5 i0 (.int .u8 0) 1 1 Tryz.underlying23 hi hz0 hz1 hz2 rfl (by decide) _ _ _ rfl ho _ _ _ rfl (HLIT.out bq _) (bys_one [bq]) (by unfold maxLen; omega) (by omega) (by rw [World.size_alloc]; omega) ?_); go_must (intro v3 w3 hown3 hg3 _); go_must (obtain ⟨q3, c3, rfl⟩ := Rd_form (Rd.of_own hown3)); go_must (have hb3 : Below (w.heap.size + 1) W0 w3 := (below_app hbelm hsm ho (Nat.le_refl _) hg3)); clear hownm ho hg3)
          have HO3 := Lib.hid hown3; clear hown3
          refine ⟨⟨m + 1, q3, c3, by omega, by congr 1; omega, by rw [Nat.add_assoc], ?_, hb3⟩, ?_⟩
          · rw [be_succ, ← HBQ.out, ← List.append_assoc, bys_append, ← Nat.add_assoc]; exact HO3.out
          · simp [intOf]; omega
        · obtain rfl : m = 8 := by omega
          have HP : Hid (padz R (zc R.length) ++ be (8 * all.length) 8 = pad all.length R) := Lib.hid rfl
          rw [HP.out] at hownm
          have hPL := pad_length all.length R
          have hPM := pad_mod all.length R
          have HNP : Hid (N + 8 = (pad all.length R).length) := Lib.hid (by have := HN.out; omega)
          rw [HNP.out] at hownm ⊢
          obtain ⟨P, hP⟩ : ∃ P, P = pad all.length R := ⟨_, rfl⟩
          rw [← hP] at hownm hPL hPM ⊢
          have HPP := Lib.hid hP; clear hP
          have HPL := Lib.hid hPL
          have HPM := Lib.hid hPM
          have hPb : P.length ≤ 200 := by have := zc_le R.length; omega
          clear hPL hPM
          rw [show (7 - ((8 : Nat) : Int)) = -1 from rfl]
          have HLD : Hid (∀ w', Below wr.heap.size wr w' → (Instr.loadAt 129 (.pointer (some ⟨hb, 0, none⟩))).run Tryz.prog w' = .ok (.agg (cells (st all))) w') := Lib.hid (fun w' hw' => by
            have hrow' : w'.heap[hb]? = _ := Rg.below_row hw' (by omega) (Rg.below_row hbelm (by omega) (Rg.below_row HBW.out hhb HROW.out))
            refine run_loadAt_mid w' hb 0 _ (cells (st all)).toList _ ?_ Tryz.underlying129 rfl ?_
            · intro j v hv
              rw [cell_of_row w' hb (0 + j) _ _ _ hrow']
              have hj : j < (cells (st all)).size := by have := (List.getElem?_eq_some_iff.1 hv).1; simpa using this
              rw [Nat.zero_add, Array.getElem?_append_left hj]; simpa using hv
            · rw [Array.length_toList, cells_size, hn'.out]; exact info8)
          have hst8 : (cells (st all)).size = 8 := by rw [cells_size, hn'.out]
          have hi8 : (Tryz.prog.info? 129).map (·.size) = some (cells (st all)).size := by rw [hst8]; exact info8
          have hz8 : (#[Value.int .u32 0, .int .u32 0, .int .u32 0, .int .u32 0, .int .u32 0, .int .u32 0, .int .u32 0, .int .u32 0] : Array Value).size = (cells (st all)).size := by rw [hst8]; rfl
          have HI8 := Lib.hid hi8
          have HZ8 := Lib.hid hz8
          have HTr : Hid (Tabs wr) := Lib.hid ((hT.below HBW.out).below (hbelm.mono (by rw [HS0.out]; exact Nat.le_refl _)))
          clear hi8 hz8 hst8
          go_wp2_with (first | (refine Mem.l_load rfl 129 _ rfl _ (HLD.out _ (Below.refl _ _)) ?_) | (refine Rg.store_row_new rfl 129 _ _ rfl wr.heap.size rfl rfl 129 _ (cells (st all)) rfl HI8.out HZ8.out (cells_one _) ?_))
          dsimp only [Act.put]
          obtain ⟨wv, hwv⟩ : ∃ wv, wv = wr.alloc (.cells (cells (st all)) 129) := ⟨_, rfl⟩
          rw [← hwv]
          have hbv : Below (w.heap.size + 1) W0 wv := by rw [hwv]; exact hbelm.alloc hsm _
          have hrv : Rd wv 1 (.slice qm P.length cm) P.length (bys P) := by rw [hwv]; exact (Rd.of_own hownm).kept (World.grownBy_alloc _ _ none) (by cases qm <;> simp [Value.ownBlock])
          have hnv : (Value.slice qm P.length cm).ownBlock ≠ some wr.heap.size := fun e => by have := (hownm.lt _ e).2; omega
          have hrowv : wv.heap[wr.heap.size]? = some (.cells (cells (st all)) 129 (0, 0)) := by rw [hwv]; exact Rg.heap_alloc_at _ _ _ rfl
          have hTv : Tabs wv := by rw [hwv]; exact HTr.out.below ((Below.refl _ _).alloc (Nat.le_refl _) _)
          obtain ⟨G, hG⟩ : ∃ G, G = wr.heap.size := ⟨_, rfl⟩
          rw [← hG] at hnv hrowv hsm ⊢
          have HGs := Lib.hid hG
          have HTV := Lib.hid hTv
          clear hwv hG HLD hownm hbelm c9m HTr hTv
          go_loopw [3] (fun v wr => ∃ (k : Nat) (q : Option Addr) (c : Nat), 64 * k ≤ P.length ∧ v = .slice q (P.length - 64 * k) c ∧ Rd wr 1 (.slice q (P.length - 64 * k) c) (P.length - 64 * k) (bys (P.drop (64 * k))) ∧ (Value.slice q (P.length - 64 * k) c).ownBlock ≠ some G ∧
            wr.heap[G]? = some (.cells (cells (pressN k (st all) P)) 129 (0, 0)) ∧ Below (w.heap.size + 1) W0 wr ∧ Tabs wr) (fun v _ => sliceLen v)
          case atStart => exact ⟨0, qm, cm, by omega, rfl, hrv, hnv, hrowv, hbv, HTV.out⟩
          case round =>
            obtain ⟨k, qk, ck, hk, rfl, hrk, hnk, hrowk, hbk, hTk⟩ := hrel
            obtain ⟨D, hD⟩ : ∃ D, D = P.drop (64 * k) := ⟨_, rfl⟩
            have hDl : P.length - 64 * k = D.length := by rw [hD, List.length_drop]
            have HD := Lib.hid hD
            rw [← hD] at hrk
            rw [hDl] at hrk hnk ⊢
            clear hD
            have HDL := Lib.hid hDl; clear hDl
            have hPl : (pressN k (st all) P).length = 8 := by rw [pressN_length]; exact hn'.out
            obtain ⟨Hk, hHk⟩ : ∃ Hk, Hk = pressN k (st all) P := ⟨_, rfl⟩
            rw [← hHk] at hrowk hPl
            have HHK := Lib.hid hHk; clear hHk
            have ROWK := Lib.hid hrowk; clear hrowk
            have HPL8 := Lib.hid hPl; clear hPl
            have hDm : D.length ≤ 200 := by rw [← HDL.out]; omega
            have hDmod : D.length % 64 = 0 := by rw [← HDL.out]; have := HPM.out; omega
            have HIK : Hid ((Tryz.prog.info? 129).map (·.size) = some (cells Hk).size) := Lib.hid (by rw [cells_size, HPL8.out]; exact info8)
            by_cases hge : 64 ≤ D.length
            · obtain ⟨b2, off2, rfl, hb2, hnc, hcm, hcell⟩ := Rd_lt hrk (by omega)
              have hbn : b2 ≠ G := by simpa [Value.ownBlock] using hnk
              have HPR : Hid (∀ w', Below wr.heap.size wr w' → Calls Tryz.prog 72 #[.agg (cells Hk), .slice (some ⟨b2, off2, none⟩) 64 ck] w' fun e w'' => e = .returned (.agg (cells (press Hk (D.take 64)))) ∧ Below wr.heap.size wr w'') := Lib.hid (fun w' hw' => by
                refine (press_any Hk (D.take 64) b2 off2 64 ck w' HPL8.out (hTk.below hw') (by rw [List.length_take]; omega) (by rw [List.length_take]; omega) (by omega) ?_ ?_).mono fun e w'' h => ⟨h.1, hw'.trans (h.2.mono hw'.size)⟩
                · unfold maxLen at hcm; omega
                · intro j hj
                  rw [hw'.cell (p := ⟨b2, off2 + j, none⟩) hb2]
                  refine hcell j _ ?_
                  rw [bys_get D j (by omega)]
                  simp [bt, List.getD, hj])
              have HLD : Hid (∀ w', Below wr.heap.size wr w' → (Instr.loadAt 129 (.pointer (some ⟨G, 0, none⟩))).run Tryz.prog w' = .ok (.agg (cells Hk)) w') := Lib.hid (fun w' hw' => by
                have hrow' := Rg.below_row hw' (lt_of_heap ROWK.out) ROWK.out
                simp only [Instr.loadAt, Instr.sureAddr, Sem.run_bind, Sem.run_pure, Result.andThen_ok]
                exact run_loadVar_row w' G _ _ _ _ _ hrow' Tryz.underlying129 rfl HIK.out)
              have hgei : (0 : Int) < (D.length : Int) := by omega
              have hlt64 : 64 ≤ ck := by omega
              have hlt65 : (64 : Int) ≤ (ck : Int) := by omega
              have HCELL := Lib.hid hcell; clear hcell
              have hcm2 : ck ≤ 9223372036854775807 := by unfold maxLen at hcm; exact hcm
              go_wp2
              refine Rg.tail (fun w' => RowKit.Below (wr).heap.size (wr) w') 4 (by kernel_rfl) (by kernel_rfl) ((RowKit.Below.refl _ _).drew) ?_; simp only [List.take_succ_cons, List.take_zero, List.drop_succ_cons, List.drop_zero]
              repeat (first | (refine Mem.q_load rfl _ _ rfl _ (HLD.out) ?_; intro K hK; go_simp; refine hK _ ?_; clear hK K) | (refine Rg.stepK rfl ?_; intro K hK; apply Exists.intro; refine ⟨?_, ?_⟩; (focus (intro w' hw';  go_simp; (first | (go_at_call 72; exact HPR.out _ hw') | ((try go_bits); (try go_simp); (try rfl))))); go_simp; refine hK _ ?_; clear hK K))
              refine wpQuiet_nil ?_; intro w' hw'
              have roww := Rg.below_row hw' (lt_of_heap ROWK.out) ROWK.out
              have hPP : (press Hk (D.take 64)).length = 8 := by rw [press_length]; exact HPL8.out
              have HROWW := Lib.hid roww; clear roww
              have HPP8 := Lib.hid hPP; clear hPP
              refine Rg.store_row rfl 129 _ _ rfl G rfl 129 (cells Hk) (cells (press Hk (D.take 64))) rfl HROWW.out (by rw [cells_size, HPP8.out]; exact info8) (by rw [cells_size, cells_size, HPP8.out, HPL8.out]) (cells_one _) ?_
              obtain ⟨w3, hw3⟩ : ∃ w3, w3 = w'.setRow G (cells (press Hk (D.take 64))) := ⟨_, rfl⟩
              rw [← hw3]
              have g3 : wr.grownBy w3 (some G) := grown_trans (grown_below hw' (some G)) (by rw [hw3]; exact grown_setRow _ _ _)
              have row3 : w3.heap[G]? = some (.cells (cells (pressN (k + 1) (st all) P)) 129 (0, 0)) := by
                rw [hw3, setRow_heap _ _ _ _ _ _ HROWW.out, pressN_succ, ← HHK.out, ← HD.out]
              have hb3 : Below (w.heap.size + 1) W0 w3 := by rw [hw3]; exact Rg.below_setRow (hbk.trans (hw'.mono (by have := hbk.size; rw [HS0.out] at this; exact this))) hsm _
              have hT3 : Tabs w3 := (hT.below HBW.out).below (hb3.mono (by rw [HS0.out]; exact Nat.le_refl _))
              have hrd3 : Rd w3 1 (.slice (some ⟨b2, off2, none⟩) D.length ck) D.length (bys D) := hrk.kept g3 (.inr (by simpa [Value.ownBlock] using hbn))
              have hD' : P.drop (64 * (k + 1)) = D.drop 64 := by rw [HD.out, List.drop_drop]; congr 1
              have hN' : P.length - 64 * (k + 1) = D.length - 64 := by have := HDL.out; omega
              have hk' : 64 * (k + 1) ≤ P.length := by have := HDL.out; omega
              have HN' := Lib.hid hN'
              have HD' := Lib.hid hD'
              have HROW3 := Lib.hid row3
              have HT3 := Lib.hid hT3
              have HB3 := Lib.hid hb3
              have HNM := Lib.hid hcm
              clear hw3 g3 row3 hT3 hD' hN' hcm hbk hTk hw' hb3
              by_cases h64 : ck = 64
              · subst h64
                have hDn : D.length = 64 := by omega
                have hr0 := Rd_none hrd3 0 (Nat.zero_le _)
                have e0 : D.drop 64 = [] := List.drop_of_length_le (by omega)
                have HE0 := Lib.hid e0; clear e0
                have HDN := Lib.hid hDn; clear hDn
                go_wp2
                refine ⟨⟨k + 1, some ⟨b2, off2, none⟩, 0, hk', by rw [HN'.out, HDN.out], by rw [HN'.out, HD'.out, HE0.out, HDN.out]; exact hr0, by simpa [Value.ownBlock] using hbn, HROW3.out, HB3.out, HT3.out⟩, ?_⟩
                show 0 < D.length
                omega
              · have h64' : 64 < ck := by omega
                have hr0 := Rd_drop (k := 64) hrd3 hge
                go_wp2
                refine ⟨⟨k + 1, some ⟨b2, off2 + 64, none⟩, ck - 64, hk', by rw [HN'.out], by rw [HN'.out, HD'.out]; exact hr0, by simpa [Value.ownBlock] using hbn, HROW3.out, HB3.out, HT3.out⟩, ?_⟩
                show D.length - 64 < D.length
                omega
            · have hD0 : D.length = 0 := by omega
              have hkk : k = P.length / 64 := by have := HDL.out; omega
              have HSHA : Hid (sha all = outb Hk) := Lib.hid (by rw [sha, HR.out, ← HPP.out, ← hkk, HHK.out])
              have hngt : ¬ (0 : Int) < (D.length : Int) := by omega
              have HD0 := Lib.hid hD0
              have hsw : w.heap.size + 1 ≤ wr.heap.size := by have := hbk.size; rw [HS0.out] at this; exact this
              have hGlt : G < wr.heap.size := lt_of_heap ROWK.out
              have HRD := Lib.hid hrk
              clear hkk hD0 hrk hk hnk hTk
              go_wp2_with (refine wpList_load_row rfl 129 _ rfl G rfl 129 (cells Hk) (0, 0) _ (by exact (Rg.heap_alloc_past _ _ _ hGlt).trans ROWK.out) Tryz.underlying129 rfl HIK.out ?_)
              have HIK8 := HPL8.out
              go_loopw [59] (fun i w' => ∃ k : Nat, k ≤ 8 ∧ i = .int .i64 k ∧ w' = wr.alloc (.cells (bysA (outk Hk k)) 22)) (fun i _ => 8 - (intOf i).toNat)
              case atStart => exact ⟨0, by omega, rfl, by rw [outk_zero]; rfl⟩
              case round =>
                obtain ⟨i, hi8, rfl, rfl⟩ := hrel
                have hol := outk_length Hk HPL8.out i hi8
                have HOL := Lib.hid hol; clear hol
                by_cases hlt : i < 8
                · have hk0 := cells_get Hk i (by omega)
                  have ho0 := outk_get Hk HIK8 i 0 hlt (by omega)
                  have ho1 := outk_get Hk HIK8 i 1 hlt (by omega)
                  have ho2 := outk_get Hk HIK8 i 2 hlt (by omega)
                  have ho3 := outk_get Hk HIK8 i 3 hlt (by omega)
                  rw [Nat.add_zero] at ho0
                  have HS4 := Lib.hid (outk_set Hk HIK8 i hlt)
                  have hidx := fun w => run_idx Hk HIK8 i hlt w
                  clear HIK8
                  go_wp2
                  refine ⟨⟨i + 1, by omega, rfl, by rw [← HS4.out]⟩, by simp [intOf]; omega⟩
                · obtain rfl : i = 8 := by omega
                  rw [show ((8 : Nat) : Int) = 8 from rfl]
                  have hi32 : (Tryz.prog.info? 22).map (·.size) = some (bysA (outk Hk 8)).size := by rw [bysA_size, HOL.out]; exact info32
                  have HI32 := Lib.hid hi32; clear hi32
                  have HZ32 : Hid ((bysA zeros32).size = (bysA (outk Hk 8)).size) := Lib.hid (by rw [bysA_size, bysA_size, HOL.out]; rfl)
                  have hrw : (wr.alloc (.cells (bysA (outk Hk 8)) 22)).heap[w.heap.size]? = some (.cells (bysA zeros32) 22 (0, 0)) := (Rg.heap_alloc_past _ _ _ (by omega)).trans (Rg.below_row hbk (by omega) HROW0.out)
                  have HRW := Lib.hid hrw; clear hrw
                  have HFULL : Hid (outk Hk 8 = sha all) := Lib.hid (by rw [outk_full Hk HPL8.out, HSHA.out])
                  clear HIK8
                  go_wp2_with (first | (refine wpList_load_row rfl 22 _ rfl wr.heap.size rfl 22 (bysA (outk Hk 8)) (0, 0) _ (by exact Rg.heap_alloc_at _ _ _ rfl) Tryz.underlying22 rfl HI32.out ?_) | (refine Rg.store_row rfl 22 _ _ rfl w.heap.size rfl 22 (bysA zeros32) (bysA (outk Hk 8)) rfl HRW.out HI32.out HZ32.out (bysA_one _) ?_))
                  refine bodyPost_ret (v := .agg (bysA (outk Hk 8))) (results_cell_row (P := Tryz.prog) rfl _ _ w.heap.size 22 (bysA (outk Hk 8)) (0, 0) _ rfl (setRow_heap _ _ _ _ 22 _ HRW.out) Tryz.underlying22 rfl HI32.out) rfl ⟨by rw [HFULL.out], ?_⟩
                  exact Rg.below_setRow ((HBW.out.trans (hbk.mono (by omega))).alloc (by omega) _) (Nat.le_refl _) _
end Sha
end Go.Proofs.YtmonkggoilhngaaGreatDoor
/- The walks of sha2: Sum of nil, Sum of parts. -/
namespace Go.Proofs.YtmonkggoilhngaaGreatDoor
open Go.RowKit Bits Mem
namespace Sha
theorem Rd_own_lt {w : World} {size : Nat} {v : Value} {n : Nat} {xs : List Value} (h : Rd w size v n xs) {k : Nat} (hk : v.ownBlock = some k) : k < w.heap.size := by
  rcases h.2 with ⟨rfl, _⟩ | ⟨b, off, cap, rfl, hb, _⟩
  · cases hk
  · cases hk; exact hb
def Parts (w : World) (v : Value) (L : List (List UInt8)) : Prop :=
  ∃ vs : List Value, Rd w 1 v L.length vs ∧ ∀ i, i < L.length → ∃ q c, vs[i]? = some (.slice q (L.getD i []).length c) ∧ Rd w 1 (.slice q (L.getD i []).length c) (L.getD i []).length (bys (L.getD i []))
theorem Parts.below {w w' : World} {v : Value} {L : List (List UInt8)} (h : Parts w v L) (hb : Below w.heap.size w w') : Parts w' v L := by
  obtain ⟨vs, h1, h2⟩ := h
  refine ⟨vs, h1.below hb, fun i hi => ?_⟩
  obtain ⟨q, c, e, hr⟩ := h2 i hi
  exact ⟨q, c, e, hr.below hb⟩
theorem flatten_take_succ (L : List (List UInt8)) (k : Nat) (h : k < L.length) : (L.take (k + 1)).flatten = (L.take k).flatten ++ L.getD k [] := by
  rw [List.take_succ_eq_append_getElem h, List.flatten_append]; simp [List.getD, h]
theorem flatten_take_le (L : List (List UInt8)) (k : Nat) (h : k < L.length) : (L.take k).flatten.length + (L.getD k []).length ≤ L.flatten.length := by
  have h1 := flatten_take_succ L k h
  have h2 : L.flatten = (L.take (k + 1)).flatten ++ (L.drop (k + 1)).flatten := by rw [← List.flatten_append, List.take_append_drop]
  rw [h2, h1]; simp only [List.length_append]; omega
set_option maxRecDepth 100000 in
set_option maxHeartbeats 1000000 in
theorem parts_any (q : Option Addr) (c : Nat) (L : List (List UInt8)) (w : World) (hT : Tabs w) (hp : Parts w (.slice q L.length c) L) (hsz : L.flatten.length ≤ 70368744177664) :
    Calls Tryz.prog 19 #[.slice q L.length c] w fun e w' => e = .returned (.agg (bysA (sha L.flatten))) ∧ Below w.heap.size w w' := by
  go_enter Tryz.func19, Tryz.ntmps19
  go_wp2_with fail
  refine (new_any _ (hT.below ((Below.refl _ _).alloc (Nat.le_refl _) _))).mono ?_
  rintro e w1 ⟨hb, rfl, hh, hge, hb1⟩
  have hB : Below (w.heap.size + 1) (w.alloc (.cells (bysA zeros32) 22)) w1 := hb1.mono (by rw [World.size_alloc]; exact Nat.le_refl _)
  have hB' : Below w.heap.size w w1 := ((Below.refl w.heap.size w).alloc (Nat.le_refl _) _).trans (hB.mono (by omega))
  have hge' : w.heap.size + 1 ≤ hb := by rw [World.size_alloc] at hge; exact hge
  have hr : w1.heap[w.heap.size]? = some (.cells (bysA zeros32) 22 (0, 0)) := Rg.below_row hB (by omega) (Rg.heap_alloc_at _ _ _ rfl)
  have HT1 := Lib.hid (hT.below hB')
  have HH := Lib.hid hh
  have HR := Lib.hid hr
  have HB' := Lib.hid hB'
  have hL : L.length ≤ 9223372036854775807 := by
    obtain ⟨vs, h1, _⟩ := hp
    rcases h1.2 with ⟨_, h0⟩ | ⟨_, _, cap, _, _, hnc, hcm, _⟩
    · omega
    · unfold maxLen at hcm; omega
  clear hh hb1 hB hB' hge hr
  go_wp2_with fail
  have HP := Lib.hid hp; clear hp
  go_loopw [9] (fun i wr => ∃ k : Nat, k ≤ L.length ∧ i = .int .i64 k ∧ HashAt wr hb (L.take k).flatten ∧ Below w.heap.size w wr ∧ wr.heap[w.heap.size]? = some (.cells (bysA zeros32) 22 (0, 0))) (fun i _ => L.length - (intOf i).toNat)
  case atStart => exact ⟨0, Nat.zero_le _, rfl, HH.out, HB'.out, HR.out⟩
  case round =>
    obtain ⟨k, hk, rfl, hhk, hbk, hrk⟩ := hrel
    have hTk := hT.below hbk
    have HTK := Lib.hid hTk; clear hTk
    have HHK := Lib.hid hhk; clear hhk
    have HRK := Lib.hid hrk; clear hrk
    by_cases hlt : k < L.length
    · obtain ⟨vs, hv0, hv2⟩ := HP.out
      have hv1 := hv0.below hbk
      obtain ⟨b, off, rfl, hbl, hnc, hcm, hcell⟩ := Rd_lt hv1 (by omega)
      obtain ⟨qk, ck, hvk, hrdk0⟩ := hv2 k hlt
      have hck := hcell k _ hvk
      have hrdk := hrdk0.below hbk
      have hqk : (Value.slice qk (L.getD k []).length ck).ownBlock ≠ some hb := fun e => by have := Rd_own_lt hrdk0 e; omega
      clear hv0 hrdk0
      have hlen := flatten_take_le L k hlt
      have hfs := flatten_take_succ L k hlt
      obtain ⟨X, hX⟩ : ∃ X, X = L.getD k [] := ⟨_, rfl⟩
      obtain ⟨Y, hY⟩ : ∃ Y, Y = (L.take k).flatten := ⟨_, rfl⟩
      rw [← hX, ← hY] at hlen hfs
      rw [← hX] at hck hrdk hqk
      rw [← hY] at HHK
      have HFS := Lib.hid hfs
      have HX := Lib.hid hX
      have HRDK := Lib.hid hrdk
      clear hfs hX hY hcell hv1 hv2 hvk hrdk
      go_wp2_with (go_at_call 49; go_must (refine (write_any hb Y X qk ck _ HTK.out HHK.out HRDK.out hqk (by omega)).mono ?_); rintro e w3 ⟨rfl, hh3, hg3⟩)
      have hlw : w.heap.size < wr.heap.size := lt_of_heap HRK.out
      refine ⟨⟨k + 1, by omega, rfl, ?_, ?_, ?_⟩, by simp [intOf]; omega⟩
      · rw [HFS.out]; exact hh3
      · exact hbk.trans (below_of_grown hg3 hbk.size (fun j hj => by have e' : hb = j := Option.some.inj hj; omega))
      · exact (hg3.block _ hlw (by intro e; have e' : w.heap.size = hb := Option.some.inj e; omega)).trans HRK.out
    · obtain rfl : k = L.length := by omega
      have HTAKE : Hid ((L.take L.length).flatten = L.flatten) := Lib.hid (by rw [List.take_of_length_le (Nat.le_refl _)])
      rw [HTAKE.out] at HHK
      have HI : Hid ((Tryz.prog.info? 22).map (·.size) = some (bysA (sha L.flatten)).size) := Lib.hid (by rw [bysA_size, sha_length]; exact info32)
      have HZ : Hid ((bysA zeros32).size = (bysA (sha L.flatten)).size) := Lib.hid (by rw [bysA_size, bysA_size, sha_length]; rfl)
      go_wp2_with fail
      refine (sum_some hb L.flatten _ HTK.out HHK.out hsz).mono ?_
      rintro e w2 ⟨rfl, hb2⟩
      have HB2 := Lib.hid hb2
      have HR2 := Lib.hid (Rg.below_row hb2 (lt_of_heap HRK.out) HRK.out)
      clear hb2
      go_wp2_with (refine Rg.store_row rfl 22 _ _ rfl w.heap.size rfl 22 (bysA zeros32) (bysA (sha L.flatten)) rfl HR2.out HI.out HZ.out (bysA_one _) ?_)
      refine bodyPost_ret (v := .agg (bysA (sha L.flatten))) (results_cell_row (P := Tryz.prog) rfl _ _ w.heap.size 22 (bysA (sha L.flatten)) (0, 0) _ rfl (setRow_heap _ _ _ _ 22 _ HR2.out) Tryz.underlying22 rfl HI.out) rfl ⟨rfl, ?_⟩
      exact Rg.below_setRow (hbk.trans (HB2.out.mono hbk.size)) (Nat.le_refl _) _
end Sha
end Go.Proofs.YtmonkggoilhngaaGreatDoor

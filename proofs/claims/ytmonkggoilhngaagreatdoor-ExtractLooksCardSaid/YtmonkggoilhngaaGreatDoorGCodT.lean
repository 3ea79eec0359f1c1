/- The reader's texts. Conditions: none beyond what the reckoning asks. -/
import Derived.Test.YtmonkggoilhngaaGreatDoorCod
import Derived.Test.YtmonkggoilhngaaGreatDoorGConcW
import Derived.Test.YtmonkggoilhngaaGreatDoorGRef
namespace Go.Proofs.YtmonkggoilhngaaGreatDoor
set_option linter.unusedVariables false
set_option linter.unusedSimpArgs false
open Go.RowKit Bits Mem
namespace Ab
theorem VTs.mk1 {σ : S} {v : Value} {τ : T} (h : VT σ v τ) : VTs σ #[v].toList [τ] := ⟨rfl, fun i τ' hi => by
  match i with
  | 0 => cases hi; exact ⟨v, rfl, h⟩
  | i + 1 => simp at hi⟩
theorem VTs.mk2 {σ : S} {u v : Value} {τ ρ : T} (h : VT σ u τ) (h' : VT σ v ρ) : VTs σ #[u, v].toList [τ, ρ] := ⟨rfl, fun i τ' hi => by
  match i with
  | 0 => cases hi; exact ⟨u, rfl, h⟩
  | 1 => cases hi; exact ⟨v, rfl, h'⟩
  | i + 2 => simp at hi⟩
theorem clone_calls {σ : S} {w : World} {v : Value} (hw : WT gtL σ w) (hv : SL σ v 1) : Calls Tryz.prog 22 #[v] w fun e w' => ∃ v, e = .returned v ∧ Ans gtL σ w v w' (.sl 1) :=
  (sig_calls (cx_ok sg0_ok) 10 Tryz.func22 (τs := [.sl 1]) (by kernel_rfl) hw (VTs.mk1 hv)).2
theorem WT.below {σ : S} {w x : World} (h : WT gtL σ w) (hx : Below w.heap.size w.drew x) : WT gtL σ x := by
  have hk : ∀ b, b < w.heap.size → x.heap[b]? = w.heap[b]? := fun b hb => hx.block b hb
  refine ⟨h.tab, fun g D hg => ?_, fun b m l hb => ?_⟩
  · obtain ⟨⟨l', hl⟩, t, f, hh⟩ := h.fx g D hg
    exact ⟨⟨l', hl⟩, t, f, (hk g (h.lt hl)).trans hh⟩
  · obtain ⟨D, t, f, h1, h2, h3⟩ := h.blk b m l hb
    exact ⟨D, t, f, (hk b (h.lt hb)).trans h1, h2, h3⟩
theorem Go1.of_below {σ : S} {w x : World} (hx : Below w.heap.size w.drew x) : Go1 σ σ w x := ⟨fun _ _ => rfl, hx.os, hx.tape, hx.output, hx.size, fun b hb _ => hx.block b hb⟩
theorem RdrAt.wt {σ : S} {w : World} (hw : WT gtL σ w) {b : Nat} (hb : σ b = some (true, lay 0)) {q : Option Addr} {len cap : Nat} {e : Int} (hr : RdrAt σ w b q len cap e) {e' : Int} (h1 : klo .i64 ≤ e') (h2 : e' ≤ khi .i64) :
    w.setCell ⟨b, 1, none⟩ (.int .i64 e') = w.setRow b #[.slice q len cap, .int .i64 e'] ∧ Go1 σ σ w (w.setRow b #[.slice q len cap, .int .i64 e']) ∧ WT gtL σ (w.setRow b #[.slice q len cap, .int .i64 e']) := by
  obtain ⟨t, ht⟩ := hr.row
  exact ⟨set_cell1 ht, rdr_set hw hb hr.sl h1 h2⟩
theorem sl_low (pb po len cap n : Nat) (hnl : n ≤ len) (l1 : len ≤ cap) : ∃ o', (∀ w : World, (Instr.sliceAt 23 (.slice (some ⟨pb, po, none⟩) len cap) (some (.int .i64 (n : Int))) none none).run Tryz.prog w = .ok (.slice (some ⟨pb, o', none⟩) (len - n) (cap - n)) w) ∧ (n < len → o' = po + n) := by
  obtain ⟨i8, hi8, hs8⟩ : ∃ i8, Tryz.prog.info? 5 = some i8 ∧ i8.size = 1 := by
    obtain ⟨i0, h1, h2⟩ := Option.map_eq_some_iff.1 infoU8A
    exact ⟨i0, h1, h2⟩
  have w0 : World := (default : World)
  obtain ⟨o', h1, h2⟩ := Rp.run_low2 (P := Tryz.prog) 23 5 i8 Tryz.underlying23 hi8 pb po len cap n hnl l1 w0
  have hw0 : ∀ w' : World, (Instr.slice 23 (.slice (some ⟨pb, po, none⟩) len cap) (some (.int .i64 (n : Int))) none none).run Tryz.prog w' = .ok (.slice (some ⟨pb, o', none⟩) (len - n) (cap - n)) w' := fun w' => by
    have hcl : cap = n ∨ cap ≠ n := by omega
    rcases hcl with hcl | hcl
    · simp [Instr.slice, Instr.sliceBounds, Instr.sliceBound, asIntOf, Sem.run_bind, run_underlying Tryz.underlying23, sizeOf, typeInfo, hi8, hcl, show n ≤ len from hnl] at h1 ⊢
      exact h1
    · simp [Instr.slice, Instr.sliceBounds, Instr.sliceBound, asIntOf, Sem.run_bind, run_underlying Tryz.underlying23, sizeOf, typeInfo, hi8, hcl, show n ≤ len from hnl] at h1 ⊢
      exact h1
  exact ⟨o', fun w' => by simp [Instr.sliceAt, Sem.run_bind, run_underlying Tryz.underlying23, hw0], fun h => by rw [h2 h, hs8, Nat.mul_one]⟩
set_option maxRecDepth 100000 in
set_option maxHeartbeats 1000000 in
theorem text_any {σ : S} {w : World} (hw : WT gtL σ w) {b : Nat} (hb : σ b = some (true, lay 0)) (m : Int) (hm0 : 0 ≤ m) (hm : m ≤ 65535) :
    Calls Tryz.prog 40 #[.pointer (some ⟨b, 0, none⟩), .int .i64 m] w fun e w' => ∃ v, e = .returned v ∧ Ans gtL σ w v w' (.sl 1) := by
  obtain ⟨q, len, cap, e, hr⟩ := rdr_of hw hb
  obtain ⟨t, hrow⟩ := hr.row
  have c0 : w.cell? ⟨b, 0, none⟩ = some (.slice q len cap) := (cell_of_row _ _ _ _ _ _ hrow).trans rfl
  have c1 : w.cell? ⟨b, 1, none⟩ = some (.int .i64 e) := (cell_of_row _ _ _ _ _ _ hrow).trans rfl
  have f0 : w.frozen? ⟨b, 0, none⟩ = false := frozen_of_row _ _ _ _ _ hrow
  have f1 : w.frozen? ⟨b, 1, none⟩ = false := frozen_of_row _ _ _ _ _ hrow
  have HW := Lib.hid hw
  have HB := Lib.hid hb
  have HR := Lib.hid hr
  obtain ⟨l1, l2, l0, l3, l4⟩ := hr.facts
  clear hw hb hr hrow
  by_cases he : e = 0
  · subst he
    by_cases hlt : len < 2
    · have hlt' : decide ((len : Int) < 2) = true := by simp; omega
      go_enter Tryz.func40, Tryz.ntmps40
      go_wp2_with fail
      have hs := HR.out.wt HW.out HB.out (e' := 3) (by decide) (by decide)
      rw [hs.1]
      go_ret
      exact ⟨_, rfl, σ, hs.2.1, hs.2.2, SL_nil _ _⟩
    · have hlt' : decide ((len : Int) < 2) = false := by simp; omega
      obtain ⟨pb, po, x0, x1, rfl, hpb, d0, d1, k0, k1⟩ : ∃ pb po, ∃ x0 x1 : Nat, q = some ⟨pb, po, none⟩ ∧ pb < w.heap.size ∧ w.cell? ⟨pb, po, none⟩ = some (.int .u8 (x0 : Int)) ∧ w.cell? ⟨pb, po + 1, none⟩ = some (.int .u8 (x1 : Int)) ∧ x0 < 256 ∧ x1 < 256 := by
        obtain ⟨q', cap', L, hq, hrd, _, _⟩ := SS.rd (c := cx sg0) HW.out (SL.ss HR.out.sl)
        cases hq
        rcases hrd.2 with ⟨hv, _⟩ | ⟨b', off, cap2, hv, hb', _, _, hc⟩
        · obtain ⟨_, h1, _⟩ : q = none ∧ L.length = 0 ∧ cap = 0 := by simpa using hv
          omega
        · cases hv
          match L, hlt, hc with
          | x0 :: x1 :: L', _, hc => exact ⟨b', off, x0.toNat, x1.toNat, rfl, hb', hc 0 _ rfl, hc 1 _ rfl, x0.toNat_lt, x1.toNat_lt⟩
          | [_], h, _ => simp at h
          | [], h, _ => simp at h
      have hbw : b < w.heap.size := HW.out.lt HB.out
      have hgl : w.heap.size ≤ w.heap.size := Nat.le_refl _
      have hi2 : (1 : Int) < (len : Int) := by omega
      have hi1 : (0 : Int) < (len : Int) := by omega
      have hn1 : 0 < len := by omega
      have hn2 : 1 < len := by omega
      clear l3 l4 hlt
      go_enter Tryz.func40, Tryz.ntmps40
      go_wp2_with fail
      refine Rc.region (w.heap.size) 17 [] [] (by kernel_rfl) (Nat.le_refl _) (by kernel_rfl) ?_; intro p; simp only [List.take, List.drop]
      iterate 17 (refine Rc.rK rfl rfl ?_; intro K hK; apply Exists.intro; refine ⟨?_, ?_⟩; (focus (intro x hx; have e0 := Rc.cell_le hx hbw c0; have e1 := Rc.cell_le hx hpb d0; have e2 := Rc.cell_le hx hpb d1; go_simp; (first | (fail) | ((try go_bits); (try go_simp); (try rfl))))); go_simp; refine hK _ ?_; clear hK K)
      refine Rc.done fun x Fs hx hle hg => ?_
      obtain ⟨N, hN, hNe⟩ : ∃ N : Nat, N ≤ 65535 ∧ bits .or .i64 ((x0 : Int) * 256) (x1 : Int) = (N : Int) := by
        refine ⟨x0 * 256 ||| x1, ?_, ?_⟩
        · have := Nat.or_lt_two_pow (n := 16) (x := x0 * 256) (y := x1) (by omega) (by omega)
          omega
        · have := Ref.i64_or (x0 * 256) x1 (by omega) (by omega)
          rw [← this]
          congr 1
      rw [hNe]
      clear hNe hle hg
      have hwx := WT.below HW.out hx
      have hrx : RdrAt σ x b (some ⟨pb, po, none⟩) len cap 0 := ⟨let ⟨t', ht'⟩ := HR.out.row; ⟨t', (hx.block b hbw).trans ht'⟩, HR.out.sl, by decide, by decide⟩
      have hgx := Go1.of_below (σ := σ) hx
      obtain ⟨t', hrow'⟩ := hrx.row
      have c0x : x.cell? ⟨b, 0, none⟩ = some (.slice (some ⟨pb, po, none⟩) len cap) := (cell_of_row _ _ _ _ _ _ hrow').trans rfl
      have c1x : x.cell? ⟨b, 1, none⟩ = some (.int .i64 0) := (cell_of_row _ _ _ _ _ _ hrow').trans rfl
      have f1x : x.frozen? ⟨b, 1, none⟩ = false := frozen_of_row _ _ _ _ _ hrow'
      have HX := Lib.hid hgx
      have HWX := Lib.hid hwx
      have HRX := Lib.hid hrx
      clear hx hgx hwx hrx hrow' c0 c1 d0 d1 f0 f1 k0 k1
      go_wp2_with fail
      refine NoPanic.normal ?_
      by_cases hNm : m < (N : Int)
      · have hNm' : decide (m < (N : Int)) = true := by simpa using hNm
        go_wp2_with fail
        have hs := HRX.out.wt HWX.out HB.out (e' := 5) (by decide) (by decide)
        rw [hs.1]
        go_ret
        exact ⟨_, rfl, σ, HX.out.trans hs.2.1, hs.2.2, SL_nil _ _⟩
      · have hNm' : decide (m < (N : Int)) = false := by simpa using hNm
        by_cases hlN : len < 2 + N
        · have hlN' : decide ((len : Int) < 2 + (N : Int)) = true := by simp; omega
          go_wp2_with fail
          have hs := HRX.out.wt HWX.out HB.out (e' := 3) (by decide) (by decide)
          rw [hs.1]
          go_ret
          exact ⟨_, rfl, σ, HX.out.trans hs.2.1, hs.2.2, SL_nil _ _⟩
        · have hlN' : decide ((len : Int) < 2 + (N : Int)) = false := by simp; omega
          go_wp2_with fail
          have ht := take_some HRX.out (2 + N) (by omega)
          rw [show ((2 + N : Nat) : Int) = 2 + (N : Int) by omega] at ht
          refine ht.mono ?_
          rintro _ w2 ⟨v2, rfl, rfl, q2, hr2, hw2⟩
          obtain ⟨o', hcut, ho'⟩ := sl_low pb po (2 + N) cap 2 (by omega) (by omega)
          rw [show 2 + N - 2 = N by omega] at hcut
          replace hcut : ∀ w : World, (Instr.sliceAt 23 (.slice (some ⟨pb, po, none⟩) (2 + N) cap) (some (.int .i64 2)) none none).run Tryz.prog w = .ok (.slice (some ⟨pb, o', none⟩) N (cap - 2)) w := hcut
          have hs2 := rdr_set HWX.out HB.out hr2.sl (e := 0) (by decide) (by decide)
          rw [← hw2] at hs2
          have hsl := SL_rest (SS.sl (SL_take HRX.out.sl (show 2 + N ≤ len by omega)) (by omega)) (show 2 ≤ 2 + N by omega) ho'
          rw [show 2 + N - 2 = N by omega] at hsl
          have HS := Lib.hid hs2
          have HSL := Lib.hid hsl
          clear ht hw2 hr2 ho' hs2 hsl
          go_wp2_with fail
          refine (clone_calls HS.out.2 HSL.out).mono ?_
          rintro _ w3 ⟨v3, rfl, σ3, g1, g2, g3⟩
          go_wp2_with fail
          go_ret
          exact ⟨_, rfl, σ3, (HX.out.trans HS.out.1).trans g1, g2, g3⟩
  · have he' : (e == 0) = false := by simpa using he
    have he2 : (e != 0) = true := by simpa using he
    clear he
    go_enter Tryz.func40, Tryz.ntmps40
    go_wp2_with fail
    go_ret
    exact ⟨_, rfl, σ, Go1.refl _ _, HW.out, SL_nil _ _⟩
theorem text_sig : SigOk Tryz.prog gtL 40 [.ptr true (lay 0) 0, .int .i64 0 65535] (.sl 1) := by
  intro σ w vs hw hv
  obtain ⟨x, y, rfl, ⟨b, m, rfl, hb, hm⟩, ⟨k, rfl, k1, k2⟩⟩ := hv.two
  obtain rfl := hm rfl
  exact .inr ⟨by simp [callFunc, Tryz.func40, Tryz.f40, mark], text_any hw hb k k1 k2⟩
end Ab
end Go.Proofs.YtmonkggoilhngaaGreatDoor
/- The reader's texts of just so many bytes. Conditions: none beyond what the reckoning asks. -/
namespace Go.Proofs.YtmonkggoilhngaaGreatDoor
open Go.RowKit Bits Mem
namespace Ab
theorem rd1_of {σ : S} {w : World} (hw : WT gtL σ w) {b : Nat} (hb : σ b = some (true, lay 1)) : ∃ rb x t, w.heap[b]? = some (.cells #[.pointer (some ⟨rb, 0, none⟩), .bool x] t (0, 0)) ∧ σ rb = some (true, lay 0) := by
  obtain ⟨C, t, f, hh, hf, hC⟩ := hw.blk b true _ hb
  obtain rfl : f = (0, 0) := hf rfl
  obtain ⟨C⟩ := C
  obtain ⟨h1, h2⟩ := hC
  match C, h1 with
  | [x, y], _ =>
    obtain ⟨_, e0, rb, rfl, hrb⟩ := h2 0 (.pt 0) rfl
    obtain ⟨_, e1, n, rfl⟩ := h2 1 .bool rfl
    cases e0; cases e1
    exact ⟨rb, n, t, hh, hrb⟩
theorem rd1_set {σ : S} {w : World} (hw : WT gtL σ w) {b rb : Nat} {x : Bool} {t : TypeId} (hb : σ b = some (true, lay 1)) (hrb : σ rb = some (true, lay 0)) (hh : w.heap[b]? = some (.cells #[.pointer (some ⟨rb, 0, none⟩), .bool x] t (0, 0))) (y : Bool) :
    Go1 σ σ w (w.setCell ⟨b, 1, none⟩ (.bool y)) ∧ WT gtL σ (w.setCell ⟨b, 1, none⟩ (.bool y)) := by
  rw [set_cell1 hh]
  exact Go1.set hw hb _ ⟨rfl, fun i κ hi => by
    match i with
    | 0 => cases hi; exact ⟨_, rfl, rb, rfl, hrb⟩
    | 1 => cases hi; exact ⟨_, rfl, y, rfl⟩
    | i + 2 => simp [lay] at hi⟩
set_option maxRecDepth 100000 in
set_option maxHeartbeats 1000000 in
theorem raw_any {σ : S} {w : World} (hw : WT gtL σ w) {b : Nat} (hb : σ b = some (true, lay 1)) (n : Nat) (hn0 : 0 < n) (hn : n ≤ 1000) :
    Calls Tryz.prog 63 #[.pointer (some ⟨b, 0, none⟩), .int .i64 (n : Int)] w fun e w' => ∃ v, e = .returned v ∧ Ans gtL σ w v w' (.ss false (.int .u8) n n) := by
  obtain ⟨rb, x, t, hrow, hrb⟩ := rd1_of hw hb
  have c0 : w.cell? ⟨b, 0, none⟩ = some (.pointer (some ⟨rb, 0, none⟩)) := (cell_of_row _ _ _ _ _ _ hrow).trans rfl
  have HW := Lib.hid hw
  have HB := Lib.hid hb
  have HRB := Lib.hid hrb
  clear hw hb hrb hrow
  go_enter Tryz.func63, Tryz.ntmps63
  go_wp2_with fail
  refine (text_any HW.out HRB.out (n : Int) (by omega) (by omega)).mono ?_
  rintro _ w2 ⟨v, rfl, σ2, g1, g2, g3⟩
  obtain ⟨q, len, cap, rfl, h1, h2, h3, h4, h5⟩ := g3
  have hle := g1.le HW.out
  obtain ⟨rb', x', t', hrow', hrb'⟩ := rd1_of g2 (hle _ _ HB.out)
  have c0' : w2.cell? ⟨b, 1, none⟩ = some (.bool x') := (cell_of_row _ _ _ _ _ _ hrow').trans rfl
  have f1 : w2.frozen? ⟨b, 1, none⟩ = false := frozen_of_row _ _ _ _ _ hrow'
  have HG1 := Lib.hid g1
  have HG2 := Lib.hid g2
  have HSL : Hid (SL σ2 (.slice q len cap) 1) := Lib.hid ⟨q, len, cap, rfl, h1, h2, h3, h4, h5⟩
  have HROW := Lib.hid hrow'
  have HRB' := Lib.hid hrb'
  have HB2 := Lib.hid (hle _ _ HB.out)
  clear g1 g2 hle hrow' hrb' h4 h5 c0
  by_cases hln : len = n
  · subst hln
    go_wp2_with fail
    go_ret
    refine ⟨_, rfl, σ2, HG1.out, HG2.out, ?_⟩
    obtain ⟨q', len', cap', e, k1, k2, k0, k3, k4⟩ := HSL.out
    cases e
    refine ⟨_, _, _, rfl, Nat.le_refl _, Nat.le_refl _, k1, k2, k3, fun p hp => ?_⟩
    obtain ⟨hs, m, l, hb, hk⟩ := k4 p hp
    exact ⟨hs, m, l, hb, (fun h => nomatch h), fun i hi => hk i (by omega)⟩
  · have hne : ((len : Int) != (n : Int)) = true := by simp; omega
    have hn1 : decide ((n : Int) < 0) = false := by simp
    have hs := rd1_set HG2.out HB2.out HRB'.out HROW.out true
    obtain ⟨v3, w3, hrun, σ3, k1, k2, k3⟩ := make_ok (c := cx sg0) (cx_ok sg0_ok) hs.2 (t := 23) (i := { size := 1, row := false, zero := [.sl 1], sl := some 1, slz := [B8], u8 := true }) (by kernel_rfl) rfl rfl (k := .i64) (k' := .i64) (n := (n : Int)) (by omega) (by omega)
    replace hrun : (Instr.makeSlice 23 (.int .i64 (n : Int)) (.int .i64 (n : Int))).run Tryz.prog (w2.setCell ⟨b, 1, none⟩ (.bool true)) = .ok v3 w3 := hrun
    have HS := Lib.hid hs.1
    have K1 := Lib.hid k1
    have K2 := Lib.hid k2
    have K3 := Lib.hid k3
    clear hs k1 k2 k3
    go_wp2_with fail
    go_ret
    refine ⟨_, rfl, σ3, (HG1.out.trans HS.out).trans K1.out, K2.out, ?_⟩
    have hss := OW.ss K3.out
    obtain ⟨q3, len3, cap3, e, l1, l2, l3, l4, l5, l6⟩ := hss
    have hnn : ((n : Int)).toNat = n := by simp
    rw [hnn] at l1 l2
    refine ⟨q3, len3, cap3, e, l1, l2, l3, l4, l5, fun p hp => ?_⟩
    obtain ⟨hs, m, l, hb, _, hk⟩ := l6 p hp
    exact ⟨hs, m, l, hb, (fun h => nomatch h), hk⟩
theorem raw_sig (n : Nat) (hn0 : 0 < n) (hn : n ≤ 1000) : SigOk Tryz.prog gtL 63 [.ptr true (lay 1) 0, .int .i64 n n] (.ss false (.int .u8) n n) := by
  intro σ w vs hw hv
  obtain ⟨x, y, rfl, ⟨b, m, rfl, hb, hm⟩, ⟨k, rfl, k1, k2⟩⟩ := hv.two
  obtain rfl := hm rfl
  obtain rfl : k = (n : Int) := by omega
  exact .inr ⟨by simp [callFunc, Tryz.func63, Tryz.f63, mark], raw_any hw hb n hn0 hn⟩
end Ab
end Go.Proofs.YtmonkggoilhngaaGreatDoor

/- The reader's take. Conditions: none beyond what the reckoning asks. -/
import Derived.Test.YtmonkggoilhngaaGreatDoorGAbC
import Derived.Test.YtmonkggoilhngaaGreatDoorGConcW
namespace Go.Proofs.YtmonkggoilhngaaGreatDoor
set_option linter.unusedVariables false
set_option linter.unusedSimpArgs false
open Go.RowKit Bits Mem
namespace Ab
theorem SL_take {σ : S} {a : Option Addr} {len cap n : Nat} (h : SL σ (.slice a len cap) 1) (hn : n ≤ len) : SS σ (.slice a n cap) false (.int .u8) n n := by
  obtain ⟨_, _, _, e, h1, h2, h0, h3, h4⟩ := h
  cases e
  refine ⟨a, n, cap, rfl, Nat.le_refl _, Nat.le_refl _, by omega, h2, h3, fun p hp => ?_⟩
  obtain ⟨hs, m, l, hb, hk⟩ := h4 p hp
  exact ⟨hs, m, l, hb, (fun h => nomatch h), fun i hi => hk i (by omega)⟩
structure RdrAt (σ : S) (w : World) (b : Nat) (q : Option Addr) (len cap : Nat) (e : Int) : Prop where
  row : ∃ t, w.heap[b]? = some (.cells #[.slice q len cap, .int .i64 e] t (0, 0))
  sl : SL σ (.slice q len cap) 1
  lo : klo .i64 ≤ e
  hi : e ≤ khi .i64
theorem rdr_of {σ : S} {w : World} (hw : WT gtL σ w) {b : Nat} (hb : σ b = some (true, lay 0)) : ∃ q len cap e, RdrAt σ w b q len cap e := by
  obtain ⟨C, t, f, hh, hf, hC⟩ := hw.blk b true _ hb
  obtain rfl : f = (0, 0) := hf rfl
  obtain ⟨C⟩ := C
  obtain ⟨h1, h2⟩ := hC
  match C, h1 with
  | [x, y], _ =>
    obtain ⟨_, e0, hx⟩ := h2 0 (.sl 1) rfl
    obtain ⟨_, e1, n, rfl, n1, n2⟩ := h2 1 (.int .i64) rfl
    cases e0; cases e1
    obtain ⟨q, len, cap, rfl, hr⟩ := hx
    exact ⟨q, len, cap, n, ⟨t, hh⟩, ⟨q, len, cap, rfl, hr⟩, n1, n2⟩
theorem rdr_set {σ : S} {w : World} (hw : WT gtL σ w) {b : Nat} (hb : σ b = some (true, lay 0)) {q : Option Addr} {len cap : Nat} {e : Int} (hs : SL σ (.slice q len cap) 1) (h1 : klo .i64 ≤ e) (h2 : e ≤ khi .i64) :
    Go1 σ σ w (w.setRow b #[.slice q len cap, .int .i64 e]) ∧ WT gtL σ (w.setRow b #[.slice q len cap, .int .i64 e]) :=
  Go1.set hw hb _ ⟨rfl, fun i κ hi => by
    match i with
    | 0 => cases hi; exact ⟨_, rfl, hs⟩
    | 1 => cases hi; exact ⟨_, rfl, e, rfl, h1, h2⟩
    | i + 2 => simp [lay] at hi⟩
theorem set_cell1 {w : World} {b : Nat} {x y y' : Value} {t : TypeId} (h : w.heap[b]? = some (.cells #[x, y] t (0, 0))) : w.setCell ⟨b, 1, none⟩ y' = w.setRow b #[x, y'] := by
  rw [setCell_eq_setRow w b 1 _ _ _ _ h]; rfl
theorem set_cell0 {w : World} {b : Nat} {x x' y : Value} {t : TypeId} (h : w.heap[b]? = some (.cells #[x, y] t (0, 0))) : w.setCell ⟨b, 0, none⟩ x' = w.setRow b #[x', y] := by
  rw [setCell_eq_setRow w b 0 _ _ _ _ h]; rfl
theorem SL_rest {σ : S} {b off len cap n o' : Nat} (h : SL σ (.slice (some ⟨b, off, none⟩) len cap) 1) (hn : n ≤ len) (ho : n < len → o' = off + n) : SL σ (.slice (some ⟨b, o', none⟩) (len - n) (cap - n)) 1 := by
  obtain ⟨_, _, _, e, h1, h2, h0, h3, h4⟩ := h
  cases e
  refine ⟨_, _, _, rfl, by omega, by omega, by omega, (fun h => nomatch h), fun p hp => ?_⟩
  cases hp
  obtain ⟨hs, m, l, hb, hk⟩ := h4 _ rfl
  refine ⟨rfl, m, l, hb, fun i hi => ?_⟩
  rw [ho (by omega)]
  have := hk (n + i) (by omega)
  dsimp only at this ⊢
  rwa [Nat.add_assoc]
theorem infoU8A : (Tryz.prog.info? 5).map (·.size) = some 1 := by kernel_rfl
theorem RdrAt.facts {σ : S} {w : World} {b : Nat} {q : Option Addr} {len cap : Nat} {e : Int} (h : RdrAt σ w b q len cap e) : len ≤ cap ∧ cap ≤ 9223372036854775807 ∧ len ≤ 1000000 ∧ (q = none → cap = 0) ∧ ∀ p, q = some p → p.spot = none := by
  obtain ⟨_, _, _, e, h1, h2, h0, h3, h4⟩ := h.sl
  cases e
  exact ⟨h1, by unfold maxLen at h2; omega, h0, h3, fun p hp => (h4 p hp).1⟩
theorem RdrAt.set {σ : S} {w : World} {b : Nat} {q q' : Option Addr} {len cap len' cap' : Nat} {e e' : Int} (h : RdrAt σ w b q len cap e) (hs : SL σ (.slice q' len' cap') 1) (h1 : klo .i64 ≤ e') (h2 : e' ≤ khi .i64) : RdrAt σ (w.setRow b #[.slice q' len' cap', .int .i64 e']) b q' len' cap' e' := by
  obtain ⟨t, ht⟩ := h.row
  exact ⟨⟨t, setRow_heap w b _ _ t (0, 0) ht⟩, hs, h1, h2⟩
def Took (σ : S) (w : World) (b : Nat) (q : Option Addr) (len cap n : Nat) (v : Value) (w' : World) : Prop :=
  v = .slice q n cap ∧ ∃ q', RdrAt σ w' b q' (len - n) (cap - n) 0 ∧ w' = w.setRow b #[.slice q' (len - n) (cap - n), .int .i64 0]
set_option maxRecDepth 100000 in
set_option maxHeartbeats 1000000 in
theorem take_some {σ : S} {w : World} {b : Nat} {q : Option Addr} {len cap : Nat} (hr : RdrAt σ w b q len cap 0) (n : Nat) (hnl : n ≤ len) :
    Calls Tryz.prog 32 #[.pointer (some ⟨b, 0, none⟩), .int .i64 (n : Int)] w fun e w' => ∃ v, e = .returned v ∧ Took σ w b q len cap n v w' := by
  obtain ⟨t, hrow⟩ := hr.row
  obtain ⟨l1, l2, l0, l3, l4⟩ := hr.facts
  have c0 : w.cell? ⟨b, 0, none⟩ = some (.slice q len cap) := (cell_of_row _ _ _ _ _ _ hrow).trans rfl
  have c1 : w.cell? ⟨b, 1, none⟩ = some (.int .i64 0) := (cell_of_row _ _ _ _ _ _ hrow).trans rfl
  have f0 : w.frozen? ⟨b, 0, none⟩ = false := frozen_of_row _ _ _ _ _ hrow
  have f1 : w.frozen? ⟨b, 1, none⟩ = false := frozen_of_row _ _ _ _ _ hrow
  have HR := Lib.hid hr
  have HROW := Lib.hid hrow
  clear hr hrow
  have hlt' : decide (len < n) = false := by simpa using hnl
  have hcapI : (n : Int) ≤ (cap : Int) := by omega
  cases q with
  | none =>
    obtain rfl := l3 rfl
    obtain rfl : len = 0 := by omega
    obtain rfl : n = 0 := by omega
    have hcut : ∀ w : World, (Instr.sliceAt 23 (.slice none 0 0) none (some (.int .i64 0)) none).run Tryz.prog w = .ok (.slice none 0 0) w := fun w => by
      simp [Instr.sliceAt, run_underlying Tryz.underlying23, Instr.slice, Instr.sliceBounds, Instr.sliceBound, asIntOf, size_one infoU8A]
    have hcut2 : ∀ w : World, (Instr.sliceAt 23 (.slice none 0 0) (some (.int .i64 0)) none none).run Tryz.prog w = .ok (.slice none 0 0) w := fun w => by
      simp [Instr.sliceAt, run_underlying Tryz.underlying23, Instr.slice, Instr.sliceBounds, Instr.sliceBound, asIntOf, size_one infoU8A]
    go_enter Tryz.func32, Tryz.ntmps32
    go_wp2_with fail
    rw [set_cell0 HROW.out]
    go_ret
    exact ⟨_, rfl, rfl, none, HR.out.set HR.out.sl (by decide) (by decide), rfl⟩
  | some p =>
    obtain ⟨pb, po, ps⟩ := p
    obtain rfl : ps = none := l4 _ rfl
    have hcut : ∀ w : World, (Instr.sliceAt 23 (.slice (some ⟨pb, po, none⟩) len cap) none (some (.int .i64 (n : Int))) none).run Tryz.prog w = .ok (.slice (some ⟨pb, po, none⟩) n cap) w := fun w => by
      have h5 : n ≤ cap := by omega
      simp [Instr.sliceAt, run_underlying Tryz.underlying23, Instr.slice, Instr.sliceBounds, Instr.sliceBound, asIntOf, size_one infoU8A, h5, al_add]
    have hi8 : ∃ i8, Tryz.prog.info? 5 = some i8 ∧ i8.size = 1 := by
      obtain ⟨i0, h1, h2⟩ := Option.map_eq_some_iff.1 infoU8A
      exact ⟨i0, h1, h2⟩
    obtain ⟨i8, hi8, hs8⟩ := hi8
    have hcut2 : ∃ o', (∀ w : World, (Instr.sliceAt 23 (.slice (some ⟨pb, po, none⟩) len cap) (some (.int .i64 (n : Int))) none none).run Tryz.prog w = .ok (.slice (some ⟨pb, o', none⟩) (len - n) (cap - n)) w) ∧ (n < len → o' = po + n) := by
      obtain ⟨o', h1, h2⟩ := Rp.run_low2 (P := Tryz.prog) 23 5 i8 Tryz.underlying23 hi8 pb po len cap n hnl l1 w
      have hw0 : ∀ w' : World, (Instr.slice 23 (.slice (some ⟨pb, po, none⟩) len cap) (some (.int .i64 (n : Int))) none none).run Tryz.prog w' = .ok (.slice (some ⟨pb, o', none⟩) (len - n) (cap - n)) w' := fun w' => by
        obtain ⟨o2, h3, h4⟩ := Rp.run_low2 (P := Tryz.prog) 23 5 i8 Tryz.underlying23 hi8 pb po len cap n hnl l1 w'
        have hcl : cap = n ∨ cap ≠ n := by omega
        rcases hcl with hcl | hcl
        · simp [Instr.slice, Instr.sliceBounds, Instr.sliceBound, asIntOf, Sem.run_bind, run_underlying Tryz.underlying23, sizeOf, typeInfo, hi8, hcl, show n ≤ len from hnl, show (n : Int) ≤ (len : Int) by omega] at h1 ⊢
          exact h1
        · simp [Instr.slice, Instr.sliceBounds, Instr.sliceBound, asIntOf, Sem.run_bind, run_underlying Tryz.underlying23, sizeOf, typeInfo, hi8, hcl, show n ≤ len from hnl, show (n : Int) ≤ (len : Int) by omega] at h1 ⊢
          exact h1
      exact ⟨o', fun w' => by simp [Instr.sliceAt, Sem.run_bind, run_underlying Tryz.underlying23, hw0], fun h => by rw [h2 h, hs8, Nat.mul_one]⟩
    obtain ⟨o', hcut2, ho'⟩ := hcut2
    have HO := Lib.hid ho'
    have hnI : (0 : Int) ≤ (n : Int) := by omega
    clear ho' hs8 hi8
    go_enter Tryz.func32, Tryz.ntmps32
    go_wp2_with fail
    rw [set_cell0 HROW.out]
    go_ret
    exact ⟨_, rfl, rfl, _, HR.out.set (SL_rest HR.out.sl hnl HO.out) (by decide) (by decide), rfl⟩
set_option maxRecDepth 100000 in
set_option maxHeartbeats 1000000 in
theorem take_none {σ : S} {w : World} (hw : WT gtL σ w) {b : Nat} (hb : σ b = some (true, lay 0)) {q : Option Addr} {len cap : Nat} {e : Int} (hr : RdrAt σ w b q len cap e) (n : Nat) (hn : e ≠ 0 ∨ len < n) :
    Calls Tryz.prog 32 #[.pointer (some ⟨b, 0, none⟩), .int .i64 (n : Int)] w fun e w' => ∃ v, e = .returned v ∧ Go1 σ σ w w' ∧ WT gtL σ w' ∧ v = .slice none 0 0 := by
  obtain ⟨t, hrow⟩ := hr.row
  have c0 : w.cell? ⟨b, 0, none⟩ = some (.slice q len cap) := (cell_of_row _ _ _ _ _ _ hrow).trans rfl
  have c1 : w.cell? ⟨b, 1, none⟩ = some (.int .i64 e) := (cell_of_row _ _ _ _ _ _ hrow).trans rfl
  have f0 : w.frozen? ⟨b, 0, none⟩ = false := frozen_of_row _ _ _ _ _ hrow
  have f1 : w.frozen? ⟨b, 1, none⟩ = false := frozen_of_row _ _ _ _ _ hrow
  have HW := Lib.hid hw
  have HB := Lib.hid hb
  have HR := Lib.hid hr
  have HROW := Lib.hid hrow
  clear hw hb hr hrow
  by_cases he : e = 0
  · subst he
    have hlt : len < n := by omega
    have hlt' : decide (len < n) = true := by simpa using hlt
    clear hn hlt
    go_enter Tryz.func32, Tryz.ntmps32
    go_wp2_with fail
    rw [set_cell1 HROW.out]
    have hs := rdr_set HW.out HB.out HR.out.sl (e := 3) (by decide) (by decide)
    go_ret
    exact ⟨_, rfl, hs.1, hs.2, rfl⟩
  · have he' : (e == 0) = false := by simpa using he
    have he2 : (e != 0) = true := by simpa using he
    clear hn he
    go_enter Tryz.func32, Tryz.ntmps32
    go_wp2_with fail
    go_ret
    exact ⟨_, rfl, Go1.refl _ _, HW.out, rfl⟩
theorem take_any {σ : S} {w : World} (hw : WT gtL σ w) {b : Nat} (hb : σ b = some (true, lay 0)) (n : Nat) :
    Calls Tryz.prog 32 #[.pointer (some ⟨b, 0, none⟩), .int .i64 (n : Int)] w fun e w' => ∃ v, e = .returned v ∧ Go1 σ σ w w' ∧ WT gtL σ w' ∧ (v = .slice none 0 0 ∨ SS σ v false (.int .u8) n n) := by
  obtain ⟨q, len, cap, e, hr⟩ := rdr_of hw hb
  by_cases h : e = 0 ∧ n ≤ len
  · obtain ⟨rfl, hn⟩ := h
    refine (take_some hr n hn).mono ?_
    rintro _ w' ⟨v, rfl, rfl, q', h1, h2⟩
    have hs := rdr_set hw hb h1.sl (e := 0) (by decide) (by decide)
    rw [← h2] at hs
    exact ⟨_, rfl, hs.1, hs.2, .inr (SL_take hr.sl hn)⟩
  · refine (take_none hw hb hr n (by omega)).mono ?_
    rintro _ w' ⟨v, rfl, h1, h2, h3⟩
    exact ⟨_, rfl, h1, h2, .inl h3⟩
theorem take_sig (n : Nat) (hn : n ≤ 1000000) : SigOk Tryz.prog gtL 32 [.ptr true (lay 0) 0, .int .i64 n n] (.or .nl (.ss false (.int .u8) n n)) := by
  intro σ w vs hw hv
  obtain ⟨x, y, rfl, ⟨b, m, rfl, hb, hm⟩, ⟨k, rfl, k1, k2⟩⟩ := hv.two
  obtain rfl := hm rfl
  obtain rfl : k = (n : Int) := by omega
  refine .inr ⟨by simp [callFunc, Tryz.func32, Tryz.f32, mark], (take_any hw hb n).mono ?_⟩
  rintro _ w' ⟨v, rfl, h1, h2, h3⟩
  exact ⟨v, rfl, σ, h1, h2, h3⟩
end Ab
end Go.Proofs.YtmonkggoilhngaaGreatDoor

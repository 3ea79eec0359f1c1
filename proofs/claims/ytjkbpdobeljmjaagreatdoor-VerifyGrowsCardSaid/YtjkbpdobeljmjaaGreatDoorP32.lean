/- A part of the proof. Plain; no condition. -/
import Derived.Test.YtjkbpdobeljmjaaGreatDoorP31
import Derived.Test.YtjkbpdobeljmjaaGreatDoorP11
import Derived.Test.YtjkbpdobeljmjaaGreatDoorP17
/- host's grown: how the log grew. Conditions: the tables lie. -/
namespace Go.Proofs.YtjkbpdobeljmjaaGreatDoor
set_option linter.unusedVariables false
set_option linter.unusedSimpArgs false
open Go.RowKit Bits Mem Sha
namespace Gr
open Stn (PartAt info32r)
open Ref (RdL OwL All32 treeS subS)
set_option maxRecDepth 100000 in
set_option maxHeartbeats 8000000 in
theorem grown_any (hb base ab : Nat) (pl now : Int) (seed : List UInt8) (D : List (List UInt8)) (f t : Nat) (A0 : Array Value) (w : World) (hT : Tb base w) (h : HostAt w base hb pl now seed D) (hD : D.length ≤ 900) (hft : f ≤ t) (htD : t ≤ D.length)
    (hab : base ≤ ab) (ha : w.heap[ab]? = some (.cells A0 50 (0, 0))) (hs : A0.size = 646) (ho : A0.all (·.oneCell') = true) (hk : A0[0]? = some (.int .i64 12)) (he : A0[1]? = some (.int .i64 0)) :
    Calls Tryz.prog 51 #[.pointer (some ⟨hb, 0, none⟩), .agg (reqA f t), .pointer (some ⟨ab, 0, none⟩)] w fun e w' => ∃ A q c, e = .returned (.int .i64 0) ∧ w'.heap[ab]? = some (.cells A 50 (0, 0)) ∧ GAns A q c (subS (D.take t) f true).length (treeS (D.take t)) ∧ RdL w' (.slice q (subS (D.take t) f true).length c) (subS (D.take t) f true) ∧ Kp (fun k => k = ab) w w' ∧ (∀ k, (Value.slice q (subS (D.take t) f true).length c).ownBlock = some k → w.heap.size ≤ k) := by
  obtain ⟨tb, sb, ub, cb, p, m, u, q1, c1, q2, c2, hrow, htab, hsch, hsup, hhb, hsbb⟩ := h
  obtain ⟨P, hP⟩ : ∃ P, P = subS (D.take t) f true := ⟨_, rfl⟩
  obtain ⟨R, hR⟩ : ∃ R, R = treeS (D.take t) := ⟨_, rfl⟩
  have hRl : R.length = 32 := by rw [hR]; exact Ref.treeS_length _ (hsup.1.2.1.take t)
  obtain ⟨w1, hw1⟩ : ∃ w1, w1 = w.alloc (.cells (reqA f t) 57) := ⟨_, rfl⟩
  have hb1 : Below w.heap.size w w1 := by rw [hw1]; exact (Below.refl _ _).alloc (Nat.le_refl _) _
  have hq1 : w1.heap[w.heap.size]? = some (.cells (reqA f t) 57 (0, 0)) := by rw [hw1]; exact heap_alloc_new w _
  have hr1 := Rp.row_le hb1 hrow
  have hst := hsup.below hb1
  have d2 : w1.cell? ⟨hb, 2, none⟩ = some (.pointer (some ⟨ub, 0, none⟩)) := (cell_of_row _ _ _ _ _ _ hr1).trans rfl
  have d72 : w1.cell? ⟨w.heap.size, 72, none⟩ = some (.int .i64 f) := (cell_of_row _ _ _ _ _ _ hq1).trans (req_at f t).2.1
  have d73 : w1.cell? ⟨w.heap.size, 73, none⟩ = some (.int .i64 t) := (cell_of_row _ _ _ _ _ _ hq1).trans (req_at f t).2.2
  have HCO : Hid (∀ x, Below w1.heap.size w1 x → Calls Tryz.prog 94 #[.pointer (some ⟨ub, 0, none⟩), .int .i64 f, .int .i64 t] x fun e w' => ∃ q' c', e = .returned (.tuple #[.slice q' P.length c', .int .i64 0]) ∧ OwL w' x.heap.size (.slice q' P.length c') P ∧ Below x.heap.size x w') := Lib.hid (fun x hx => by
    rw [hP]
    exact supcons_any ub base _ q2 c2 D f t x (hT.sha.below (hb1.trans (hx.mono hb1.size))) (hst.below hx).1 (by omega) htD hft)
  have HLR : Hid (∀ x, SupAt x ub base seed q1 c1 q2 c2 D → Sha.Tabs x → Calls Tryz.prog 95 #[.pointer (some ⟨ub, 0, none⟩), .int .i64 t] x fun e w' => e = .returned (.tuple #[.agg (bysA R), .int .i64 0]) ∧ Below x.heap.size x w') := Lib.hid (fun x hx hS => by
    rw [hR]
    exact suproot_any ub base _ q2 c2 D t x hS hx.1 (by omega) htD)
  rw [← hP, ← hR]
  have HR1 := Lib.hid hr1
  have HQ1 := Lib.hid hq1
  have HA1 := Lib.hid (Rp.row_le hb1 ha)
  have HS1 := Lib.hid hst
  have HSH := Lib.hid (hT.sha.below hb1)
  have HB1 := Lib.hid hb1
  have HW1 := Lib.hid hw1
  have HRL := Lib.hid hRl
  have HT1 := Lib.hid (hT.below (hb1.mono hT.le))
  have hh1 := lt_of_heap hr1
  have hq1l := lt_of_heap hq1
  have hal := lt_of_heap ha
  have HGA : Hid (∀ q c n, GAns ((A0.setIfInBounds 645 (.slice q n c)).toList.take 613 ++ (bysA R).toList ++ (A0.setIfInBounds 645 (.slice q n c)).toList.drop (613 + (bysA R).size)).toArray q c n R) := Lib.hid (fun q c n => gans_mk hs ho hk he q c n hRl)
  have HA0S := Lib.hid hs
  have HIR := Lib.hid (info32r R hRl)
  have hty : ∀ k, Tn ub (.slice q1 D.length c1) (.slice q2 D.length c2) k → k ≠ ab := fun k hk e => by
    obtain ⟨_, C, t, f, h1, h2⟩ := hsup.typed hk
    refine ne_typedG h1 ha ?_ e
    rcases h2 with rfl | rfl | rfl <;> decide
  have HTY := Lib.hid hty
  have hahb : ab ≠ hb := fun e => ne_typedG ha hrow (by decide) e
  have hlt : ¬ (P.length : Int) < 0 := by omega
  clear hty hP hR hRl hw1 hb1 hq1 hr1 hst hT hrow htab hsch hsup ha hs ho hk he
  go_enter Tryz.func51, Tryz.ntmps51
  go_upto_region 1 with fail
  rw [← HW1.out]
  refine Rc.region (w1.heap.size) 14 [Rc.F 8 (fun p => .tuple #[.slice p.q P.length p.c, .int .i64 0]) (fun p F y => RdL y (.slice p.q P.length p.c) P ∧ ∀ k, (Value.slice p.q P.length p.c).ownBlock = some k → w1.heap.size ≤ k)] [8] (by kernel_rfl) (Nat.le_refl _) (by kernel_rfl) ?_; intro p; simp only [List.take, List.drop]
  iterate 8 (refine Rc.rK rfl rfl ?_; intro K hK; apply Exists.intro; refine ⟨?_, ?_⟩; (focus (intro x hx; have e1 := Rc.cell_le hx hh1 d2; have e2 := Rc.cell_le hx hq1l d72; have e3 := Rc.cell_le hx hq1l d73; go_simp; (first | (fail) | ((try go_bits); (try go_simp); (try rfl))))); go_simp; refine hK _ ?_; clear hK K)
  refine Rc.fK rfl rfl rfl rfl ?_ ?_
  · intro x Fs hx hle hg K hK
    go_wp2_with fail
    refine (HCO.out x (Rc.undrew hx)).mono ?_
    rintro e x' ⟨q', c', rfl, ho, hb⟩
    go_wp2_with fail
    exact hK ⟨q', c', undef⟩ x' hb (fun F y hF hy => ⟨⟨ho.1, Rd.of_ow (OwF.fresh ho.2 hle hF hy).1⟩, fun k hk => Nat.le_trans hle (ho.2.lt k hk).1⟩)
  intro K hK; go_simp; refine hK _ ?_; clear hK K
  iterate 5 (refine Rc.rK rfl rfl ?_; intro K hK; apply Exists.intro; refine ⟨?_, ?_⟩; (focus (intro x hx;  go_simp; (first | (fail) | ((try go_bits); (try go_simp); (try rfl))))); go_simp; refine hK _ ?_; clear hK K)
  refine Rc.done fun x Fs hx hle hg => ?_
  have hfact : RdL x (.slice (p 8).q P.length (p 8).c) P ∧ (∀ k, (Value.slice (p 8).q P.length (p 8).c).ownBlock = some k → w1.heap.size ≤ k) := hg.1
  obtain ⟨qs, hqs⟩ : ∃ qs, qs = (p 8).q := ⟨_, rfl⟩
  obtain ⟨cs, hcs⟩ : ∃ cs, cs = (p 8).c := ⟨_, rfl⟩
  rw [← hqs, ← hcs] at hfact ⊢
  have hbx : Below w1.heap.size w1 x := Rc.undrew hx
  have hax := Rp.row_le hbx HA1.out
  obtain ⟨v0, hv0⟩ : ∃ v0, A0[645]? = some v0 := ⟨_, Array.getElem?_eq_getElem (by rw [HA0S.out]; decide)⟩
  have c645 : x.cell? ⟨ab, 645, none⟩ = some v0 := (cell_of_row _ _ _ _ _ _ hax).trans hv0
  have f645 : x.frozen? ⟨ab, 645, none⟩ = false := frozen_of_row _ _ _ _ _ hax
  obtain ⟨w2, hw2⟩ : ∃ w2, w2 = x.setCell ⟨ab, 645, none⟩ (.slice qs P.length cs) := ⟨_, rfl⟩
  obtain ⟨A1, hA1⟩ : ∃ A1, A1 = A0.setIfInBounds 645 (.slice qs P.length cs) := ⟨_, rfl⟩
  have hk2 : Kp (fun k => k = ab) x w2 := by rw [hw2]; exact Kp.setCell _ _ _ _
  have ha2 : w2.heap[ab]? = some (.cells A1 50 (0, 0)) := by rw [hw2, hA1]; exact heap_setCell_same _ _ _ _ _ _ hax
  have hkw : Kp (fun k => k = ab) w1 w2 := Kp.lower (Kp.of_below hbx) hk2 (fun _ _ e => e)
  have hr2 : w2.heap[hb]? = some (.cells (hostC tb sb ub cb _ m u) 76 (0, 0)) := (hkw.block hb hh1 (fun e => hahb e.symm)).trans HR1.out
  have hqn : w.heap.size ≠ ab := by omega
  have hq2 : w2.heap[w.heap.size]? = some (.cells (reqA f t) 57 (0, 0)) := (hkw.block _ hq1l hqn).trans HQ1.out
  have hs2 : SupAt w2 ub base seed q1 c1 q2 c2 D := HS1.out.at fun k hk => by
    obtain ⟨_, C, t, f, h1, _⟩ := HS1.out.typed hk
    exact hkw.block k (lt_of_heap h1) (HTY.out k hk)
  have hrd2 : RdL w2 (.slice qs P.length cs) P := ⟨hfact.1.1, hfact.1.2.kpq fun k hk => hk2.block k (hfact.1.2.ltB k hk) (fun e => by have e : k = ab := e; have := hfact.2 k hk; have := HB1.out.size; omega)⟩
  have hsh2 : Sha.Tabs w2 := (HT1.out.below ((hbx.mono HT1.out.le).trans (hk2.below (Nat.le_trans HT1.out.le hbx.size) (fun k e => by have e : k = ab := e; omega)))).sha
  have h2h := lt_of_heap hr2
  have h2q := lt_of_heap hq2
  have h2a := lt_of_heap ha2
  have HW2 := Lib.hid hw2
  have HA2 := Lib.hid ha2
  have HR2 := Lib.hid hr2
  have HQ2 := Lib.hid hq2
  have HS2 := Lib.hid hs2
  have HSH2 := Lib.hid hsh2
  have HRD2 := Lib.hid hrd2
  have HKW := Lib.hid hkw
  have HNQ := Lib.hid hfact.2
  have HG2 := Lib.hid (HGA.out qs cs P.length)
  rw [← hA1] at HG2
  have HA1S : Hid (A1.size = 646) := Lib.hid (by rw [hA1]; simp [HA0S.out])
  have d2' : w2.cell? ⟨hb, 2, none⟩ = some (.pointer (some ⟨ub, 0, none⟩)) := (cell_of_row _ _ _ _ _ _ hr2).trans rfl
  have d73' : w2.cell? ⟨w.heap.size, 73, none⟩ = some (.int .i64 t) := (cell_of_row _ _ _ _ _ _ hq2).trans (req_at f t).2.2
  obtain ⟨A2, hA2⟩ : ∃ A2, A2 = (A1.toList.take 613 ++ ((bysA R).toList ++ A1.toList.drop (613 + (bysA R).size))).toArray := ⟨_, rfl⟩
  have HA2E := Lib.hid hA2
  clear hx hle hg hqs hcs hfact hbx hax hv0 hw2 hA1 hk2 ha2 hkw hr2 hq2 hs2 hrd2 hsh2 d2 d72 d73 hA2
  go_wp2_with fail
  refine NoPanic.normal ?_
  go_upto_region 5 with fail
  rw [← HW2.out]
  refine Rq.region (fun k => k < w2.heap.size ∧ k ≠ ab) 15 [Rq.S 7 [] [] Rq.free (fun _ => .tuple #[.agg (bysA R), .int .i64 0]) (fun _ _ _ => True), Rq.S 13 [] [] (· = ab) (fun _ => undef) (fun _ _ y => y.heap[ab]? = some (.cells A2 50 (0, 0)))] [13] (by kernel_rfl) (Rq.own_one (i := 13) h2a (by intro s hs; simp only [List.mem_cons, List.not_mem_nil, or_false] at hs; rcases hs with rfl | rfl <;> first | exact .inl rfl | exact .inr ⟨rfl, rfl⟩)) (by kernel_rfl) ?_; intro p; simp only [List.take, List.drop]
  iterate 7 (refine Rq.rK rfl rfl ?_; intro K hK; apply Exists.intro; refine ⟨?_, ?_⟩; (focus (intro x hx; have e1 : x.cell? ⟨hb, 2, none⟩ = some (.pointer (some ⟨ub, 0, none⟩)) := (cell_of_row x hb _ _ _ _ (hx.row (by exact ⟨h2h, fun e => hahb e.symm⟩) HR2.out)).trans rfl; have e2 : x.cell? ⟨w.heap.size, 73, none⟩ = some (.int .i64 t) := (cell_of_row x _ _ _ _ _ (hx.row (by exact ⟨h2q, hqn⟩) HQ2.out)).trans (req_at f t).2.2; go_simp; (first | (fail) | ((try go_bits); (try go_simp); (try rfl))))); go_simp; refine hK _ ?_; clear hK K)
  refine Rq.cK rfl rfl rfl ?_ ?_
  · intro x Fs hx ho hg K hK
    have hu := Rq.undrew hx
    have hsx : SupAt x ub base seed q1 c1 q2 c2 D := HS2.out.at fun k hk => by
      obtain ⟨_, C, t, f, h1, _⟩ := HS2.out.typed hk
      exact hx.block k ⟨lt_of_heap h1, HTY.out k hk⟩
    have hTx : Sha.Tabs x := Sha.Tabs.rows HSH2.out (B := base) ⟨hx.os, hx.tape, hx.output, hx.size, fun k hk => hx.block k ⟨by have := HT1.out.le; have := HKW.out.size; omega, by omega⟩⟩ HT1.out.lo
    go_wp2_with fail
    refine (HLR.out x hsx hTx).mono ?_
    rintro e x' ⟨rfl, hb⟩
    go_wp2_with fail
    exact hK Rc.dflt x' (Rc.Eff.of_below hb _) (fun _ _ => trivial)
  intro K hK; go_simp; refine hK _ ?_; clear hK K
  iterate 5 (refine Rq.rK rfl rfl ?_; intro K hK; apply Exists.intro; refine ⟨?_, ?_⟩; (focus (intro x hx;  go_simp; (first | (fail) | ((try go_bits); (try go_simp); (try rfl))))); go_simp; refine hK _ ?_; clear hK K)
  refine Rq.cK rfl rfl rfl ?_ ?_
  · intro x Fs hx ho hg K hK
    have ha : x.heap[ab]? = some (.cells A1 50 (0, 0)) := (ho _ rfl).trans HA2.out
    go_wp2_with (refine Rg.store_part rfl 22 _ _ rfl ab 613 rfl 50 A1 (bysA R) rfl ha HIR.out (by rw [bysA_size, HRL.out, HA1S.out]; decide) (bysA_one _) ?_)
    rw [← HA2E.out]
    have hgr := Fld.grownBy_setRowE x ab A2
    have ha' := setRow_heap x ab _ A2 _ _ ha
    exact hK Rc.dflt _ ⟨hgr.os, hgr.tape, hgr.output, hgr.size, fun j hj hn => hgr.block j hj fun e => hn (.inr (by cases e; rfl))⟩ (fun y hy => (hy.block _ (lt_of_heap ha') (.inr (.inl (.inr rfl)))).trans ha')
  intro K hK; go_simp; refine hK _ ?_; clear hK K
  iterate 1 (refine Rq.rK rfl rfl ?_; intro K hK; apply Exists.intro; refine ⟨?_, ?_⟩; (focus (intro x hx;  go_simp; (first | (fail) | ((try go_bits); (try go_simp); (try rfl))))); go_simp; refine hK _ ?_; clear hK K)
  refine Rq.done fun y Fs hx hg => ?_
  have hay : y.heap[ab]? = some (.cells A2 50 (0, 0)) := hg.1
  have HXS : Hid (Rq.Same (fun k => k < w2.heap.size ∧ k ≠ ab) w2 y) := Lib.hid (Rq.undrew hx)
  have HAY := Lib.hid hay
  clear hx hg hay
  go_wp2_with fail
  refine NoPanic.normal ?_
  go_wp2_with fail
  go_ret
  have hk2y : Kp (fun k => k = ab) w2 y := ⟨HXS.out.os, HXS.out.tape, HXS.out.output, HXS.out.size, fun k hk hn => HXS.out.block k ⟨hk, hn⟩⟩
  refine ⟨A2, qs, cs, rfl, HAY.out, by rw [HA2E.out, ← List.append_assoc]; exact HG2.out, ⟨HRD2.out.1, HRD2.out.2.kpq fun k hk => hk2y.block k (HRD2.out.2.ltB k hk) (fun e => ?_)⟩, Kp.lower (Kp.lower (Kp.of_below HB1.out) HKW.out (fun _ _ e => e)) hk2y (fun _ _ e => e), fun k hk => ?_⟩
  · have e : k = ab := e
    have := HNQ.out k hk
    have := HB1.out.size
    omega
  · have := HNQ.out k hk
    have := HB1.out.size
    omega
end Gr
end Go.Proofs.YtjkbpdobeljmjaaGreatDoor

/- host's Serve of a growth. Conditions: the tables lie. -/
namespace Go.Proofs.YtjkbpdobeljmjaaGreatDoor
set_option linter.unusedVariables false
set_option linter.unusedSimpArgs false
open Go.RowKit Bits Mem Sha
namespace Gr
open Stn (PartAt info32r)
open Ref (RdL OwL All32 treeS subS)
theorem HostAt.below {w w' : World} {base hb : Nat} {pl now : Int} {seed : List UInt8} {D : List (List UInt8)} (h : HostAt w base hb pl now seed D) (hb' : Below w.heap.size w w') : HostAt w' base hb pl now seed D := by
  obtain ⟨tb, sb, ub, cb, p, m, u, q1, c1, q2, c2, hrow, htab, hsch, hsup, hhb, hsbb⟩ := h
  exact ⟨tb, sb, ub, cb, p, m, u, q1, c1, q2, c2, Rp.row_le hb' hrow, Rp.row_le hb' htab, Rp.row_le hb' hsch, hsup.below hb', hhb, hsbb⟩
set_option maxRecDepth 100000 in
set_option maxHeartbeats 8000000 in
theorem serve_any (hb base ab : Nat) (pl now : Int) (seed : List UInt8) (D : List (List UInt8)) (f t : Nat) (A0 : Array Value) (w : World) (hT : Tb base w) (h : HostAt w base hb pl now seed D) (hD : D.length ≤ 900) (hft : f ≤ t) (htD : t ≤ D.length)
    (hab : base ≤ ab) (ha : w.heap[ab]? = some (.cells A0 50 (0, 0))) (hs : A0.size = 646) (ho : A0.all (·.oneCell') = true) (hk : A0[0]? = some (.int .i64 12)) (he : A0[1]? = some (.int .i64 0)) :
    Calls Tryz.prog 21 #[.pointer (some ⟨hb, 0, none⟩), .agg (reqA f t), .pointer (some ⟨ab, 0, none⟩)] w fun e w' => ∃ A q c, e = .returned (.int .i64 0) ∧ w'.heap[ab]? = some (.cells A 50 (0, 0)) ∧ GAns A q c (subS (D.take t) f true).length (treeS (D.take t)) ∧ RdL w' (.slice q (subS (D.take t) f true).length c) (subS (D.take t) f true) ∧ Kp (fun k => k = ab) w w' ∧ (∀ k, (Value.slice q (subS (D.take t) f true).length c).ownBlock = some k → w.heap.size ≤ k) := by
  obtain ⟨w1, hw1⟩ : ∃ w1, w1 = w.alloc (.cells (reqA f t) 57) := ⟨_, rfl⟩
  have hb1 : Below w.heap.size w w1 := by rw [hw1]; exact (Below.refl _ _).alloc (Nat.le_refl _) _
  have hq1 : w1.heap[w.heap.size]? = some (.cells (reqA f t) 57 (0, 0)) := by rw [hw1]; exact heap_alloc_new w _
  have HG := Lib.hid (grown_any hb base ab pl now seed D f t A0 w1 (hT.below (hb1.mono hT.le)) (h.below hb1) hD hft htD hab (Rp.row_le hb1 ha) hs ho hk he)
  obtain ⟨P, hP⟩ : ∃ P, P = subS (D.take t) f true := ⟨_, rfl⟩
  obtain ⟨R, hR⟩ : ∃ R, R = treeS (D.take t) := ⟨_, rfl⟩
  rw [← hP, ← hR] at HG ⊢
  have c0 : w1.cell? ⟨w.heap.size, 0, none⟩ = some (.int .i64 12) := (cell_of_row _ _ _ _ _ _ hq1).trans (req_at f t).1
  have HLD := Lib.hid ((PartAt.self (reqA f t)).load hq1 Tryz.underlying57 rfl (infoReq f t))
  obtain ⟨Q, hQ⟩ : ∃ Q, Q = reqA f t := ⟨_, rfl⟩
  rw [← hQ] at HG HLD hw1 ⊢
  have HW1 := Lib.hid hw1
  have HB1 := Lib.hid hb1
  clear hT h ha hs ho hk he hw1 hb1 hq1 hP hR hQ
  go_enter Tryz.func21, Tryz.ntmps21
  go_upto_region 1 with fail
  rw [← HW1.out]
  go_wp2_with (refine l_loadP rfl _ _ rfl (.pointer (some ⟨w.heap.size, 0, none⟩)) rfl (.agg Q) HLD.out ?_)
  refine HG.out.mono ?_
  rintro e w2 ⟨A, q, c, rfl, h1, h2, h3, h4, h5⟩
  have H1 := Lib.hid h1
  have H2 := Lib.hid h2
  have H3 := Lib.hid h3
  have H4 := Lib.hid h4
  have H5 := Lib.hid h5
  clear h1 h2 h3 h4 h5
  go_wp2_with fail
  go_ret
  exact ⟨A, q, c, rfl, H1.out, H2.out, H3.out, Kp.lower (Kp.of_below HB1.out) H4.out (fun _ _ e => e), fun k hk => Nat.le_trans HB1.out.size (H5.out k hk)⟩
set_option maxRecDepth 100000 in
set_option maxHeartbeats 8000000 in
theorem Serve_any (hb base : Nat) (pl now : Int) (seed : List UInt8) (D : List (List UInt8)) (f t : Nat) (w : World) (hT : Tb base w) (h : HostAt w base hb pl now seed D) (hD : D.length ≤ 900) (hft : f ≤ t) (htD : t ≤ D.length) :
    Calls Tryz.prog 7 #[.pointer (some ⟨hb, 0, none⟩), .agg (reqA f t)] w fun e w' => ∃ A q c, e = .returned (.agg A) ∧ GAns A q c (subS (D.take t) f true).length (treeS (D.take t)) ∧ RdL w' (.slice q (subS (D.take t) f true).length c) (subS (D.take t) f true) ∧ Below w.heap.size w w' := by
  obtain ⟨Z, hZ⟩ : ∃ Z, Z = Tryz.zeroCells50 := ⟨_, rfl⟩
  have hZs : Z.size = 646 := by rw [hZ]; decide +kernel
  obtain ⟨A0, hA0⟩ : ∃ A0, A0 = ans0 := ⟨_, rfl⟩
  have hBU : Tryz.prog.built 50 [(0, .int .i64 12)] = some A0 := by rw [hA0]; exact ans_built
  have hs : A0.size = 646 := by rw [hA0]; exact ans0_size
  have ho : A0.all (·.oneCell') = true := by rw [hA0]; exact ans0_one
  have hat : A0[0]? = some (.int .i64 12) ∧ A0[1]? = some (.int .i64 0) := by rw [hA0]; exact ans0_at
  obtain ⟨w1, hw1⟩ : ∃ w1, w1 = (w.alloc (.cells (reqA f t) 57)).alloc (.cells Z 50) := ⟨_, rfl⟩
  have hb1 : Below w.heap.size w w1 := by rw [hw1]; exact ((Below.refl _ _).alloc (Nat.le_refl _) _).alloc (by simp) _
  have hq1 : w1.heap[w.heap.size]? = some (.cells (reqA f t) 57 (0, 0)) := by rw [hw1]; exact (Rg.heap_alloc_past _ _ _ (by simp)).trans (heap_alloc_new w _)
  have hz1 : w1.heap[w.heap.size + 1]? = some (.cells Z 50 (0, 0)) := by rw [hw1]; exact Rg.heap_alloc_at _ _ _ (by simp)
  have hsz1 : w1.heap.size = w.heap.size + 1 + 1 := by rw [hw1]; simp
  obtain ⟨w2, hw2⟩ : ∃ w2, w2 = w1.alloc (.cells A0 50) := ⟨_, rfl⟩
  have hb2 : Below w1.heap.size w1 w2 := by rw [hw2]; exact (Below.refl _ _).alloc (Nat.le_refl _) _
  have hbw2 := hb1.trans (hb2.mono hb1.size)
  have ha2 : w2.heap[w1.heap.size]? = some (.cells A0 50 (0, 0)) := by rw [hw2]; exact heap_alloc_new w1 _
  have HSV := Lib.hid (serve_any hb base w1.heap.size pl now seed D f t A0 w2 (hT.below (hbw2.mono hT.le)) (h.below hbw2) hD hft htD (by have := hT.le; omega) ha2 hs ho hat.1 hat.2)
  obtain ⟨P, hP⟩ : ∃ P, P = subS (D.take t) f true := ⟨_, rfl⟩
  obtain ⟨R, hR⟩ : ∃ R, R = treeS (D.take t) := ⟨_, rfl⟩
  rw [← hP, ← hR] at HSV ⊢
  have c0 : w1.cell? ⟨w.heap.size, 0, none⟩ = some (.int .i64 12) := (cell_of_row _ _ _ _ _ _ hq1).trans (req_at f t).1
  have HLD := Lib.hid ((PartAt.self (reqA f t)).load (Rp.row_le hb2 hq1) Tryz.underlying57 rfl (infoReq f t))
  obtain ⟨Q, hQ⟩ : ∃ Q, Q = reqA f t := ⟨_, rfl⟩
  rw [← hQ] at HSV HLD hw1 ⊢
  have HZ := Lib.hid hZ.symm
  have HZS := Lib.hid hZs
  have HA0S := Lib.hid hs
  have HA0O := Lib.hid ho
  have HBU := Lib.hid hBU
  have HIA := Lib.hid (infoAns hs)
  have HW1 := Lib.hid hw1
  have HW2 := Lib.hid hw2
  have HZ1 := Lib.hid (Rp.row_le hb2 hz1)
  have HB2 := Lib.hid hbw2
  have HAL := Lib.hid (lt_of_heap ha2)
  have HS1 := Lib.hid hsz1
  clear hT h hZ hZs hA0 hBU hs ho hat hw1 hb1 hq1 hz1 hw2 hb2 hbw2 ha2 hP hR hQ hsz1
  go_enter Tryz.func7, Tryz.ntmps7
  go_upto_region 1 with fail
  rw [HZ.out, ← HW1.out]
  go_upto_region 4 with (first | (refine l_buildT rfl 50 _ rfl A0 (by simp only [List.map_toArray, List.map_cons, List.map_nil]; exact HBU.out) ?_) | (refine Rg.store_row_new rfl 50 _ _ rfl w1.heap.size rfl rfl 50 _ A0 rfl HIA.out (by rw [HZ.out, HZS.out, HA0S.out]) HA0O.out ?_))
  rw [← HW2.out]
  go_wp2_with (refine l_loadP rfl _ _ rfl (.pointer (some ⟨w.heap.size, 0, none⟩)) rfl (.agg Q) HLD.out ?_)
  refine HSV.out.mono ?_
  rintro e w3 ⟨A, q, c, rfl, ha3, hg3, hr3, hk3, hn3⟩
  have HGA := Lib.hid hg3
  have HA3 := Lib.hid ha3
  have HIA3 := Lib.hid (infoAns hg3.size)
  have HLA := Lib.hid ((PartAt.self A).load ha3 Tryz.underlying50 rfl (infoAns hg3.size))
  have hz3 : w3.heap[w.heap.size + 1]? = some (.cells Z 50 (0, 0)) := (hk3.block _ (lt_of_heap HZ1.out) (fun e => by have := HS1.out; omega)).trans HZ1.out
  have HZ3 := Lib.hid hz3
  have HR3 := Lib.hid hr3
  have HB3 : Hid (Below w.heap.size w w3) := Lib.hid (HB2.out.trans (hk3.below HB2.out.size (fun k e => by have e : k = w1.heap.size := e; have := HS1.out; omega)))
  have hwk : ∀ k, (Value.slice q P.length c).ownBlock = some k → k ≠ w.heap.size + 1 := fun k hk e => by
    have h1 := hn3 k hk
    have h2 := HAL.out
    have h3 := HS1.out
    omega
  clear ha3 hg3 hr3 hk3 hn3 hz3
  go_wp2_with (first | (refine l_loadP rfl _ _ rfl (.pointer (some ⟨w1.heap.size, 0, none⟩)) rfl (.agg A) HLA.out ?_) | (refine Rg.store_row rfl 50 _ _ rfl (w.heap.size + 1) rfl 50 Z A rfl HZ3.out HIA3.out (by rw [HZS.out, HGA.out.size]) HGA.out.one ?_))
  refine bodyPost_ret (v := .agg A) (results_cell_row (P := Tryz.prog) rfl _ _ (w.heap.size + 1) 50 A (0, 0) _ rfl (setRow_heap _ _ _ _ 50 _ HZ3.out) Tryz.underlying50 rfl HIA3.out) rfl ?_
  refine ⟨A, q, c, rfl, HGA.out, ⟨HR3.out.1, HR3.out.2.kpq fun k hk => (Kp.setRow w3 (w.heap.size + 1) A).block k (HR3.out.2.ltB k hk) (hwk k hk)⟩, Rg.below_setRow HB3.out (by omega) _⟩
end Gr
end Go.Proofs.YtjkbpdobeljmjaaGreatDoor

/- The walks of the climber's right and of power. -/
namespace Go.Proofs.YtjkbpdobeljmjaaGreatDoor
open Go.RowKit Bits Mem Sha
namespace Ref
theorem and_one (a : Nat) (h : a < 9223372036854775808) : bits .and .i64 (a : Int) (1 : Int) = ((a % 2 : Nat) : Int) := by
  have := i64_and a 1 h (by omega)
  rw [Nat.and_one_is_mod] at this
  exact this
set_option maxRecDepth 100000 in
set_option maxHeartbeats 1000000 in
theorem right16_any (a b : Nat) (w : World) (ha : a < 9223372036854775808) (hb : b < 9223372036854775808) :
    Calls Tryz.prog 24 #[.agg #[.int .i64 a, .int .i64 b]] w fun e w' => e = .returned (.bool (Rfc.right a b)) ∧ Below w.heap.size w w' := by
  have h1 := and_one a ha
  by_cases ho : a % 2 = 1
  · have HR : Hid (Rfc.right a b = true) := Lib.hid (by unfold Rfc.right; simp [ho])
    rw [ho] at h1
    have h2 : bits .and .i64 (a : Int) (1 : Int) = 1 := h1
    clear h1 ho
    go_enter Tryz.func24, Tryz.ntmps24
    go_wp2_with fail
    go_ret
    exact ⟨by rw [HR.out]; rfl, (Below.refl _ _).alloc (Nat.le_refl _) _⟩
  · have h2 : bits .and .i64 (a : Int) (1 : Int) = 0 := by rw [h1]; omega
    by_cases he : a = b
    · subst he
      have HR : Hid (Rfc.right a a = true) := Lib.hid (by unfold Rfc.right; simp)
      clear h1 ho
      go_enter Tryz.func24, Tryz.ntmps24
      go_wp2_with fail
      go_ret
      exact ⟨by rw [HR.out]; rfl, (Below.refl _ _).alloc (Nat.le_refl _) _⟩
    · have HR : Hid (Rfc.right a b = false) := Lib.hid (by unfold Rfc.right; simp [he]; omega)
      have hne : ((a : Int) == (b : Int)) = false := by rw [beq_eq_false_iff_ne]; omega
      clear h1 ho
      go_enter Tryz.func24, Tryz.ntmps24
      go_wp2_with fail
      go_ret
      exact ⟨by rw [HR.out]; rfl, (Below.refl _ _).alloc (Nat.le_refl _) _⟩
set_option maxRecDepth 100000 in
set_option maxHeartbeats 1000000 in
theorem power_any (m : Nat) (w : World) (h0 : 1 ≤ m) (hm : m < 9223372036854775808) :
    Calls Tryz.prog 23 #[.int .i64 m] w fun e w' => e = .returned (.bool (Rfc.pow2 m)) ∧ w' = w := by
  have h1 := i64_and m (m - 1) hm (by omega)
  obtain ⟨k, hk⟩ : ∃ k, k = m &&& (m - 1) := ⟨_, rfl⟩
  rw [← hk] at h1
  have h2 : bits .and .i64 (m : Int) ((m : Int) - 1) = (k : Int) := by rw [← h1]; congr 1; omega
  by_cases hz : k = 0
  · have HR : Hid (Rfc.pow2 m = true) := Lib.hid (by unfold Rfc.pow2; rw [← hk, hz]; rfl)
    have hE : ((k : Int) == 0) = true := by rw [hz]; rfl
    clear h1 hk hz
    go_enter Tryz.func23, Tryz.ntmps23
    go_wp2_with fail
    go_ret
    exact ⟨by rw [HR.out]; rfl, rfl⟩
  · have HR : Hid (Rfc.pow2 m = false) := Lib.hid (by unfold Rfc.pow2; rw [← hk]; simp [hz])
    have hE : ((k : Int) == 0) = false := by rw [beq_eq_false_iff_ne]; omega
    clear h1 hk hz
    go_enter Tryz.func23, Tryz.ntmps23
    go_wp2_with fail
    go_ret
    exact ⟨by rw [HR.out]; rfl, rfl⟩
theorem infoCl (a b : Nat) : (Tryz.prog.info? 95).map (·.size) = some (#[Value.int .i64 (a : Int), .int .i64 (b : Int)] : Array Value).size := by kernel_rfl
set_option maxRecDepth 100000 in
set_option maxHeartbeats 2000000 in
theorem up16_any (a b : Nat) (w : World) (ha : a < 9223372036854775808) (hb : b < 9223372036854775808) (hr : a % 2 = 1 ∨ a = b) (h0 : a ≠ 0) :
    Calls Tryz.prog 26 #[.agg #[.int .i64 a, .int .i64 b]] w fun e w' => e = .returned (.agg #[.int .i64 (Rfc.next a b).1, .int .i64 (Rfc.next a b).2]) ∧ Below w.heap.size w w' := by
  have h1 := and_one a ha
  by_cases ho : a % 2 = 1
  · have HN : Hid (Rfc.next a b = (a / 2, b / 2)) := Lib.hid (by unfold Rfc.next; rw [if_neg (by omega)])
    rw [ho] at h1
    have h2 : bits .and .i64 (a : Int) (1 : Int) = 1 := h1
    have h3 : (a : Int) / 2 = ((a / 2 : Nat) : Int) := by omega
    clear h1 ho hr h3
    go_enter Tryz.func26, Tryz.ntmps26
    go_wp2_with fail
    refine bodyPost_ret (v := .agg #[.int .i64 ((a : Int) / 2), .int .i64 ((b : Int) / 2)]) (results_cell_row (P := Tryz.prog) rfl _ _ (w.heap.size + 1) 95 #[.int .i64 ((a : Int) / 2), .int .i64 ((b : Int) / 2)] (0, 0) _ rfl (Rg.heap_alloc_at _ _ _ (by simp)) Tryz.underlying95 rfl (infoCl (a / 2) (b / 2))) rfl ⟨?_, ((Below.refl _ _).alloc (Nat.le_refl _) _).alloc (by simp) _⟩
    rw [HN.out]
    rfl
  · obtain rfl : a = b := by omega
    have h2 : bits .and .i64 (a : Int) (1 : Int) = 0 := by rw [h1]; omega
    clear h1
    go_enter Tryz.func26, Tryz.ntmps26
    have HN : Hid (Rfc.next a a = ((Rfc.strip a a a).1 / 2, (Rfc.strip a a a).2 / 2)) := Lib.hid (by unfold Rfc.next; rw [if_pos ⟨by omega, rfl⟩])
    clear hr ho
    go_wp2_with fail
    go_loopw [] (fun wr => ∃ x f : Nat, x ≤ f ∧ x < 9223372036854775808 ∧ Hid (Rfc.strip f x x = Rfc.strip a a a) ∧ wr = (w.alloc (.cells #[.int .i64 (x : Int), .int .i64 (x : Int)] 95)).alloc (.cells #[.int .i64 0, .int .i64 0] 95)) (fun wr => (intOf ((wr.cell? ⟨w.heap.size, 0, none⟩).getD undef)).toNat)
    case atStart => exact ⟨a, a, Nat.le_refl _, ha, Lib.hid rfl, rfl⟩
    case round =>
      obtain ⟨x, f, hxf, hxl, HS, rfl⟩ := hrel
      have hx1 := and_one x hxl
      have hcell : ∀ y : Int, ((w.alloc (.cells #[.int .i64 y, .int .i64 y] 95)).alloc (.cells #[.int .i64 0, .int .i64 0] 95)).cell? ⟨w.heap.size, 0, none⟩ = some (.int .i64 y) := fun y =>
        (cell_of_row _ _ _ _ _ _ ((Rg.heap_alloc_past (w.alloc (.cells #[.int .i64 y, .int .i64 y] 95)) _ w.heap.size (by simp)).trans (Rg.heap_alloc_at w (.cells #[.int .i64 y, .int .i64 y] 95) _ rfl))).trans rfl
      have HC := Lib.hid hcell
      clear hcell
      by_cases hx0 : x = 0
      · have hne : ((x : Int) != 0) = false := by rw [hx0]; rfl
        have HE : Hid (Rfc.next a a = (x / 2, x / 2)) := Lib.hid (by
          have h : Rfc.strip f x x = (x, x) := by
            cases f with
            | zero => rfl
            | succ f => rw [Rfc.strip, if_neg (by omega)]
          rw [HN.out, ← HS.out, h])
        clear hx1
        (try clear hxo)
        (try clear hx0)
        go_wp2_with fail
        refine bodyPost_ret (v := .agg #[.int .i64 ((x : Int) / 2), .int .i64 ((x : Int) / 2)]) (results_cell_row (P := Tryz.prog) rfl _ _ (w.heap.size + 1) 95 #[.int .i64 ((x : Int) / 2), .int .i64 ((x : Int) / 2)] (0, 0) _ rfl (Rg.heap_alloc_at _ _ _ (by simp)) Tryz.underlying95 rfl (infoCl (x / 2) (x / 2))) rfl ⟨?_, ((Below.refl _ _).alloc (Nat.le_refl _) _).alloc (by simp) _⟩
        rw [HE.out]
        rfl
      · have hne : ((x : Int) != 0) = true := by rw [bne_iff_ne]; omega
        by_cases hxo : x % 2 = 1
        · have hx2 : bits .and .i64 (x : Int) (1 : Int) = 1 := by rw [hx1, hxo]; rfl
          have HE : Hid (Rfc.next a a = (x / 2, x / 2)) := Lib.hid (by
            have h : Rfc.strip f x x = (x, x) := by
              cases f with
              | zero => rfl
              | succ f => rw [Rfc.strip, if_neg (by omega)]
            rw [HN.out, ← HS.out, h])
          clear hx1
          (try clear hxo)
          (try clear hx0)
          go_wp2_with fail
          refine bodyPost_ret (v := .agg #[.int .i64 ((x : Int) / 2), .int .i64 ((x : Int) / 2)]) (results_cell_row (P := Tryz.prog) rfl _ _ (w.heap.size + 1) 95 #[.int .i64 ((x : Int) / 2), .int .i64 ((x : Int) / 2)] (0, 0) _ rfl (Rg.heap_alloc_at _ _ _ (by simp)) Tryz.underlying95 rfl (infoCl (x / 2) (x / 2))) rfl ⟨?_, ((Below.refl _ _).alloc (Nat.le_refl _) _).alloc (by simp) _⟩
          rw [HE.out]
          rfl
        · have hx2 : bits .and .i64 (x : Int) (1 : Int) = 0 := by rw [hx1]; omega
          clear hx1
          go_wp2_with fail
          obtain ⟨f, rfl⟩ : ∃ g, f = g + 1 := ⟨f - 1, by omega⟩
          refine ⟨⟨x / 2, f, by omega, by omega, Lib.hid (by rw [← HS.out, Rfc.strip, if_pos ⟨hx0, by omega⟩]), rfl⟩, ?_⟩
          rw [HC.out, HC.out]
          show ((x : Int) / 2).toNat < (x : Int).toNat
          omega
end Ref
end Go.Proofs.YtjkbpdobeljmjaaGreatDoor


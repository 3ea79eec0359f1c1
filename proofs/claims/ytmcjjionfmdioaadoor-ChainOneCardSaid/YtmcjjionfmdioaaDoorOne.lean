/- The walk of custumallaw18.ChainOne. -/
import Derived.Test.YtmcjjionfmdioaaDoorOneLaw
namespace Go.Proofs.YtmcjjionfmdioaaDoor
open Go.RowKit Bits Mem Sha
namespace Ref
theorem tx_small {id : List UInt8} {f : Int} {a : List UInt8} {R L : List (List UInt8)} {n : Nat} (hR : n ≤ R.length) (hR32 : All32 R) (ha : a.length = 32) (hL32 : All32 L) (hL : n ≤ L.length) (hid : id.length ≤ 1000000) : ∀ x ∈ tx id f a R L n, x.length ≤ 70368744177664 := fun x hx => by
  obtain ⟨j, hj, rfl⟩ := List.mem_map.1 hx
  have hj := List.mem_range.1 hj
  rw [linkText_length _ _ _ _ (hR32.getD (by omega)) (prv_length ha hL32 (by omega))]
  omega
theorem past_store {w : World} {g : Nat} {f : Int} {a : List UInt8} {v s : Value} {t : TypeId} (h : w.heap[g]? = some (.cells (pastA f a v) t (0, 0))) (ha : a.length = 32) :
    w.cell? ⟨g, 33, none⟩ = some v ∧ w.frozen? ⟨g, 33, none⟩ = false :=
  ⟨past_roots h ha, frozen_of_row _ _ _ _ _ h⟩
theorem pastA_set {f : Int} {a : List UInt8} {v s : Value} (ha : a.length = 32) : (pastA f a v).setIfInBounds 33 s = pastA f a s := by
  have h33 : (#[Value.int .i64 f] ++ bysA a).size = 33 := by simp [bysA_size, ha]
  unfold pastA
  rw [Array.setIfInBounds_append_right (by omega), h33]
  rfl
theorem load_past {w : World} {g : Nat} {f : Int} {a : List UInt8} {v : Value} {t : TypeId} {fr : Nat × Nat} (h : w.heap[g]? = some (.cells (pastA f a v) t fr)) (ha : a.length = 32) :
    (Instr.loadAt 42 (.pointer (some ⟨g, 0, none⟩))).run Tryd.prog w = .ok (.agg (pastA f a v)) w := by
  have := run_loadAt_mid w g 0 42 (pastA f a v).toList _ (fun j u hu => by
    rw [Nat.zero_add, cell_of_row w g _ _ _ _ h]
    simpa using hu) Tryd.underlying42 rfl (by
    rw [Array.length_toList, pastA_size _ _ ha]; kernel_rfl)
  simpa using this
theorem lks_all32 (id : List UInt8) (f : Int) (a : List UInt8) (R : List (List UInt8)) (n : Nat) : All32 (lks id f a R n) := fun x hx => by
  obtain ⟨j, _, rfl⟩ := List.mem_map.1 hx
  exact nextLink_length _ _ _ _
set_option maxRecDepth 100000 in
set_option maxHeartbeats 8000000 in
theorem chainOne_any (q : Option Addr) (c : Nat) (l0 : List UInt8) (f g : Int) (a b : List UInt8) (qr qs : Option Addr) (cr cs : Nat) (R S : List (List UInt8)) (w : World) (hS : Sha.Tabs w) (hT : Ref.Tabs w) (hl : Rd w 1 (.slice q l0.length c) l0.length (bys l0)) (ha : a.length = 32) (hb : b.length = 32)
    (hr : RdL w (.slice qr R.length cr) R) (hs : RdL w (.slice qs S.length cs) S) (hf0 : -9223372036854775808 ≤ f) (hf1 : f ≤ 9223372036854775807) (hg0 : -9223372036854775808 ≤ g) (hg1 : g ≤ 9223372036854775807) :
    Calls Tryd.prog 7 #[.slice q l0.length c, .agg (pastA f a (.slice qr R.length cr)), .agg (pastA g b (.slice qs S.length cs))] w fun e w' => e = .returned (.bool true) ∧ Below w.heap.size w w' := by
  have HS := Lib.hid hS
  have HT := Lib.hid hT
  have hcap := Rd_cap hl
  have HFG := Lib.hid (And.intro (And.intro hf0 hf1) (And.intro hg0 hg1))
  have hmin : (if (50 : Int) < (l0.length : Int) then (50 : Int) else (l0.length : Int)) = ((min l0.length 50 : Nat) : Int) := by split <;> omega
  obtain ⟨wq, hwq⟩ : ∃ wq, wq = (w.alloc (.cells (pastA f a (.slice qr R.length cr)) 42)).alloc (.cells (pastA g b (.slice qs S.length cs)) 42) := ⟨_, rfl⟩
  have hbq : Below w.heap.size w wq := by rw [hwq]; exact ((Below.refl _ _).alloc (Nat.le_refl _) _).alloc (by simp) _
  have hgp : wq.heap[w.heap.size]? = some (.cells (pastA f a (.slice qr R.length cr)) 42 (0, 0)) := by rw [hwq]; exact (Rg.heap_alloc_past _ _ _ (by simp)).trans (Rg.heap_alloc_at w _ _ rfl)
  have hgq : wq.heap[w.heap.size + 1]? = some (.cells (pastA g b (.slice qs S.length cs)) 42 (0, 0)) := by rw [hwq]; exact Rg.heap_alloc_at _ _ _ (by simp)
  have HWQ := Lib.hid hwq
  have HQS : Hid (wq.heap.size = w.heap.size + 2) := Lib.hid (by rw [hwq]; simp)
  have HBQ := Lib.hid hbq
  have HGP := Lib.hid hgp
  have HGQ := Lib.hid hgq
  have HA := Lib.hid ha
  have HB := Lib.hid hb
  have HR := Lib.hid (hr.below hbq)
  have HSS := Lib.hid (hs.below hbq)
  have HLW := Lib.hid (Rd_take hl (Nat.min_le_left l0.length 50))
  have hglp := lt_of_heap hgp
  have hglq := lt_of_heap hgq
  have c33 := past_roots hgp ha
  have d33 := past_roots hgq hb
  have HIP : Hid ((Tryd.prog.info? 42).map (·.size) = some 34) := Lib.hid (by kernel_rfl)
  clear hS hT hl ha hb hr hs hf0 hf1 hg0 hg1 hwq hbq hgp hgq
  go_enter Tryd.func7, Tryd.ntmps7
  go_wp2_with (rw [← HWQ.out])
  obtain ⟨l, hXl⟩ : ∃ l, l = l0.take (min l0.length 50) := ⟨_, rfl⟩
  have hll : min l0.length 50 = l.length := by rw [hXl, List.length_take]; omega
  have hl50 : l.length ≤ 50 := by omega
  rw [← hXl] at HLW
  rw [hll] at HLW ⊢
  clear hXl hll hmin hcap HWQ
  have hT12 : (R.take 12).length ≤ 12 := by rw [List.length_take]; omega
  have hU12 : (S.take 12).length ≤ 12 := by rw [List.length_take]; omega
  obtain ⟨T, hTe⟩ : ∃ T, T = R.take 12 := ⟨_, rfl⟩
  obtain ⟨U, hUe⟩ : ∃ U, U = S.take 12 := ⟨_, rfl⟩
  have HTE := Lib.hid hTe
  have HUE := Lib.hid hUe
  have HT32 : Hid (All32 T) := Lib.hid (by rw [hTe]; exact HR.out.1.take 12)
  have HU32 : Hid (All32 U) := Lib.hid (by rw [hUe]; exact HSS.out.1.take 12)
  rw [← hTe] at hT12
  rw [← hUe] at hU12
  clear hTe hUe
  refine Rc.region (wq.heap.size) 8 [Rc.F 2 (fun p => .slice p.q T.length p.c) (fun p F y => OwF F y wq.heap.size 25 32 (.slice p.q T.length p.c) T.length (bys T.flatten)), Rc.F 5 (fun p => .slice p.q U.length p.c) (fun p F y => OwF F y wq.heap.size 25 32 (.slice p.q U.length p.c) U.length (bys U.flatten))] [2, 5] (by kernel_rfl) (Nat.le_refl _) (by kernel_rfl) ?_; intro p; simp only [List.take_succ_cons, List.take_zero, List.take_nil, List.drop_succ_cons, List.drop_zero, List.drop_nil]
  iterate 2 (refine Rc.rK rfl rfl ?_; intro K hK; apply Exists.intro; refine ⟨?_, ?_⟩; (focus (intro x hx; have c33x := Rc.cell_le hx hglp c33; have d33x := Rc.cell_le hx hglq d33; go_simp; (first | (fail) | ((try go_bits); (try go_simp); (try rfl))))); go_simp; refine hK _ ?_; clear hK K)
  refine Rc.fK rfl rfl rfl rfl ?_ ?_
  · intro x Fs hx hle hg K hK
    go_wp2_with fail
    refine (few18_any qr cr R x (HR.out.below (Rc.undrew hx))).mono ?_
    rintro e x' ⟨v, rfl, hown, hb⟩
    rw [← HTE.out] at hown
    obtain ⟨q', c', rfl⟩ := Ow_form hown.2
    go_wp2_with fail
    exact hK ⟨q', c', undef⟩ x' hb (fun F y hF hy => OwF.fresh hown.2 hle hF hy)
  intro K hK; go_simp; refine hK _ ?_; clear hK K
  iterate 2 (refine Rc.rK rfl rfl ?_; intro K hK; apply Exists.intro; refine ⟨?_, ?_⟩; (focus (intro x hx; have c33x := Rc.cell_le hx hglp c33; have d33x := Rc.cell_le hx hglq d33; go_simp; (first | (fail) | ((try go_bits); (try go_simp); (try rfl))))); go_simp; refine hK _ ?_; clear hK K)
  refine Rc.fK rfl rfl rfl rfl ?_ ?_
  · intro x Fs hx hle hg K hK
    go_wp2_with fail
    refine (few18_any qs cs S x (HSS.out.below (Rc.undrew hx))).mono ?_
    rintro e x' ⟨v, rfl, hown, hb⟩
    rw [← HUE.out] at hown
    obtain ⟨q', c', rfl⟩ := Ow_form hown.2
    go_wp2_with fail
    exact hK ⟨q', c', undef⟩ x' hb (fun F y hF hy => OwF.fresh hown.2 hle hF hy)
  intro K hK; go_simp; refine hK _ ?_; clear hK K
  iterate 2 (refine Rc.rK rfl rfl ?_; intro K hK; apply Exists.intro; refine ⟨?_, ?_⟩; (focus (intro x hx;  go_simp; (first | (fail) | ((try go_bits); (try go_simp); (try rfl))))); go_simp; refine hK _ ?_; clear hK K)
  refine Rc.done fun x Fs hx hle hg => ?_
  obtain ⟨q1, hq1⟩ : ∃ q1, q1 = (p 2).q := ⟨_, rfl⟩
  obtain ⟨c1, hc1⟩ : ∃ c1, c1 = (p 2).c := ⟨_, rfl⟩
  obtain ⟨q2, hq2⟩ : ∃ q2, q2 = (p 5).q := ⟨_, rfl⟩
  obtain ⟨c2, hc2⟩ : ∃ c2, c2 = (p 5).c := ⟨_, rfl⟩
  have HOT : Hid (Ow x wq.heap.size 25 32 (.slice q1 T.length c1) T.length (bys T.flatten)) := Lib.hid (by rw [hq1, hc1]; exact hg.1.1)
  have HOU : Hid (Ow x wq.heap.size 25 32 (.slice q2 U.length c2) U.length (bys U.flatten)) := Lib.hid (by rw [hq2, hc2]; exact hg.2.1.1)
  have HBX := Lib.hid (HBQ.out.trans ((Rc.undrew hx).mono HBQ.out.size))
  have HGP1 := Lib.hid (Rp.row_le (Rc.undrew hx) HGP.out)
  have HGQ1 := Lib.hid (Rp.row_le (Rc.undrew hx) HGQ.out)
  have HRX := Lib.hid (HR.out.below (Rc.undrew hx))
  rw [← hq1, ← hc1, ← hq2, ← hc2]
  clear hq1 hc1 hq2 hc2 hg hx hle c33 d33 hglp hglq HGP HGQ HBQ HR HSS HRX
  have hminTU : (if U.length < T.length then (U.length : Int) else (T.length : Int)) = ((min T.length U.length : Nat) : Int) := by split <;> omega
  obtain ⟨n, hn⟩ : ∃ n, n = min T.length U.length := ⟨_, rfl⟩
  have hnT : n ≤ T.length := by omega
  have hnU : n ≤ U.length := by omega
  rw [← hn] at hminTU
  clear hn
  go_wp2_with fail
  refine NoPanic.normal ?_
  go_wp2_with fail
  refine (chains_any x (HS.out.below HBX.out) (HT.out.below HBX.out)).mono ?_
  rintro e x1 ⟨rfl, hb1⟩
  have HB1 := Lib.hid (HBX.out.trans (hb1.mono HBX.out.size))
  have HOT1 := Lib.hid (HOT.out.below hb1)
  have HOU1 := Lib.hid (HOU.out.below hb1)
  have HGP2 := Lib.hid (Rp.row_le hb1 HGP1.out)
  have HGQ2 := Lib.hid (Rp.row_le hb1 HGQ1.out)
  clear hb1 HBX HOT HOU HGP1 HGQ1 hminTU
  by_cases h0 : n = 0
  · subst h0
    go_wp2_with fail
    refine (chains_any x1 (HS.out.below HB1.out) (HT.out.below HB1.out)).mono ?_
    rintro e x2 ⟨rfl, hb2⟩
    have HB2 := Lib.hid (HB1.out.trans (hb2.mono HB1.out.size))
    clear hb2
    go_wp2_with fail
    go_ret
    exact ⟨rfl, HB2.out⟩
  · have h0B : ((n : Int) == 0) = false := by simpa using h0
    have hcT := Rd_cap (Rd.of_ow HOT1.out)
    have hcU := Rd_cap (Rd.of_ow HOU1.out)
    have hnc1 : n ≤ c1 := by omega
    have hnc2 : n ≤ c2 := by omega
    obtain ⟨i0, hi, hz0, hz1, hz2⟩ := parts3 infoA32
    go_wp2_with fail
    refine Rp.pure [0, 1, 2, 3, 4, 5, 6] [7, 8, 9] (by kernel_rfl) (by kernel_rfl) ?_; simp only [Rp.pickN, Rp.nth]
    iterate 2 (refine Rp.uK rfl ?_; intro K hK; apply Exists.intro; refine ⟨?_, ?_⟩; (focus (intro x; go_simp; (try rfl))); go_simp; refine hK _ ?_; clear hK K)
    refine Rp.u_cut rfl 40 _ _ rfl 25 i0 Tryd.underlying40 hi q1 T.length c1 n rfl rfl hnc1 ?_
    intro K hK; go_simp; refine hK _ ?_; clear hK K
    iterate 2 (refine Rp.uK rfl ?_; intro K hK; apply Exists.intro; refine ⟨?_, ?_⟩; (focus (intro x; go_simp; (try rfl))); go_simp; refine hK _ ?_; clear hK K)
    refine Rp.u_cut rfl 40 _ _ rfl 25 i0 Tryd.underlying40 hi q2 U.length c2 n rfl rfl hnc2 ?_
    intro K hK; go_simp; refine hK _ ?_; clear hK K
    repeat (refine Rp.uK rfl ?_; intro K hK; apply Exists.intro; refine ⟨?_, ?_⟩; (focus (intro x; go_simp; (first | (fail) | ((try go_bits); (try go_simp); (try rfl))))); go_simp; refine hK _ ?_; clear hK K)
    refine Rp.uDone ?_
    obtain ⟨xd, hxd⟩ : ∃ xd, xd = x1.drew := ⟨_, rfl⟩
    have hbd : Below x1.heap.size x1 xd := by rw [hxd]; exact (Below.refl _ _).drew
    rw [← hxd]
    have HOT3 := Lib.hid (HOT1.out.below hbd)
    have HOU3 := Lib.hid (HOU1.out.below hbd)
    have HGP3 := Lib.hid (Rp.row_le hbd HGP2.out)
    have HGQ3 := Lib.hid (Rp.row_le hbd HGQ2.out)
    have HB3 := Lib.hid (HB1.out.trans (hbd.mono HB1.out.size))
    clear hbd hxd HOT1 HOU1 HGP2 HGQ2 HB1
    obtain ⟨c33, f33⟩ := past_store (s := .slice q1 n c1) HGP3.out HA.out
    obtain ⟨d33, e33⟩ := past_store (s := .slice q2 n c2) HGQ3.out HB.out
    go_wp2_with fail
    refine NoPanic.normal ?_
    have hTf : ∀ {v : Value} {m : Nat} {xs : List Value}, Ow xd wq.heap.size 25 32 v m xs → Ow ((xd.setCell ⟨w.heap.size, 33, none⟩ (.slice q1 n c1)).setCell ⟨w.heap.size + 1, 33, none⟩ (.slice q2 n c2)) wq.heap.size 25 32 v m xs := by
      intro v m xs h
      have no : ∀ j, j < w.heap.size + 2 → v.ownBlock = none ∨ v.ownBlock ≠ some j := fun j hj => by
        cases hk : v.ownBlock with
        | none => exact .inl rfl
        | some k =>
          refine .inr fun e => ?_
          cases e
          have := (h.lt j hk).1
          rw [HQS.out] at this
          omega
      exact (h.kept (grownBy_setCell _ _ _ _) (no _ (by omega))).kept (grownBy_setCell _ _ _ _) (no _ (by omega))
    have hp4 : ((xd.setCell ⟨w.heap.size, 33, none⟩ (.slice q1 n c1)).setCell ⟨w.heap.size + 1, 33, none⟩ (.slice q2 n c2)).heap[w.heap.size]? = some (.cells (pastA f a (.slice q1 n c1)) 42 (0, 0)) := by
      rw [heap_setCell_other _ _ _ _ (by simp), heap_setCell_same _ _ _ _ _ _ HGP3.out, pastA_set HA.out]
    have hq4 : ((xd.setCell ⟨w.heap.size, 33, none⟩ (.slice q1 n c1)).setCell ⟨w.heap.size + 1, 33, none⟩ (.slice q2 n c2)).heap[w.heap.size + 1]? = some (.cells (pastA g b (.slice q2 n c2)) 42 (0, 0)) := by
      rw [heap_setCell_same _ _ _ _ _ _ ((heap_setCell_other _ _ _ _ (by simp)).trans HGQ3.out), pastA_set HB.out]
    have hb4 := Below.setCell (Below.setCell HB3.out (p := ⟨w.heap.size, 33, none⟩) (Nat.le_refl _) (.slice q1 n c1)) (p := ⟨w.heap.size + 1, 33, none⟩) (by simp) (.slice q2 n c2)
    have hv4 := (show RdL _ (.slice q1 T.length c1) T from ⟨HT32.out, Rd.of_ow (hTf HOT3.out)⟩).cut' hnT
    have hu4 := (show RdL _ (.slice q2 U.length c2) U from ⟨HU32.out, Rd.of_ow (hTf HOU3.out)⟩).cut' hnU
    obtain ⟨V, hV⟩ : ∃ V, V = T.take n := ⟨_, rfl⟩
    obtain ⟨N, hN⟩ : ∃ N, N = U.take n := ⟨_, rfl⟩
    have hVl : V.length = n := by rw [hV, List.length_take]; omega
    have hNl : N.length = n := by rw [hN, List.length_take]; omega
    rw [← hV] at hv4
    rw [← hN] at hu4
    have hV12 : V.take 12 = V := List.take_of_length_le (by omega)
    have hN12 : N.take 12 = N := List.take_of_length_le (by omega)
    obtain ⟨ws, hws⟩ : ∃ ws, ws = (xd.setCell ⟨w.heap.size, 33, none⟩ (.slice q1 n c1)).setCell ⟨w.heap.size + 1, 33, none⟩ (.slice q2 n c2) := ⟨_, rfl⟩
    rw [← hws] at hp4 hq4 hb4 hv4 hu4 ⊢
    have HP4 := Lib.hid hp4
    have HQ4 := Lib.hid hq4
    have HB4 := Lib.hid hb4
    have HV4 := Lib.hid hv4
    have HN4 := Lib.hid hu4
    have HVL := Lib.hid hVl
    have HNL := Lib.hid hNl
    have HV12 := Lib.hid hV12
    have HN12 := Lib.hid hN12
    have hn12 : n ≤ 12 := by omega
    have hn0 : 0 < n := by omega
    clear hTf hp4 hq4 hb4 hv4 hu4 hV hN hVl hNl hV12 hN12 hws c33 d33 f33 e33 HOT3 HOU3 HGP3 HGQ3 HB3 hcT hcU hnT hnU hT12 hU12 HT32 HU32 HTE HUE hi hz0 hz1 hz2
    have HE1 := Lib.hid (lks_length l f a V n)
    have HE2 := Lib.hid (lks_length l g b N n)
    have HA1 := Lib.hid (lks_all32 l f a V n)
    have HA2 := Lib.hid (lks_all32 l g b N n)
    obtain ⟨L, hL⟩ : ∃ L, L = lks l f a V n := ⟨_, rfl⟩
    obtain ⟨M, hM⟩ : ∃ M, M = lks l g b N n := ⟨_, rfl⟩
    have HL := Lib.hid hL
    have HM := Lib.hid hM
    rw [← hL] at HE1 HA1
    rw [← hM] at HE2 HA2
    clear hL hM
    go_wp2_with fail
    refine Rc.region (ws.heap.size) 8 [Rc.F 2 (fun p => .slice p.q n p.c) (fun p _ y => Rd y 32 (.slice p.q n p.c) n (bys L.flatten)), Rc.F 5 (fun p => .slice p.q n p.c) (fun p _ y => Rd y 32 (.slice p.q n p.c) n (bys M.flatten))] [2, 5] (by kernel_rfl) (Nat.le_refl _) (by kernel_rfl) ?_; intro p; simp only [List.take_succ_cons, List.take_zero, List.take_nil, List.drop_succ_cons, List.drop_zero, List.drop_nil]
    iterate 1 (refine Rc.rK rfl rfl ?_; intro K hK; apply Exists.intro; refine ⟨?_, ?_⟩; (focus (intro x hx;  go_simp; (first | (fail) | ((try go_bits); (try go_simp); (try rfl))))); go_simp; refine hK _ ?_; clear hK K)
    refine Rc.r_load rfl rfl _ _ rfl (.agg (pastA f a (.slice q1 n c1))) (fun x hx => load_past (Rp.row_le (Rc.undrew hx) HP4.out) HA.out) ?_; intro K hK; go_simp; refine hK _ ?_; clear hK K
    refine Rc.fK rfl rfl rfl rfl ?_ ?_
    · intro x Fs hx hle hg K hK
      have hbx := HB4.out.trans ((Rc.undrew hx).mono HB4.out.size)
      have hlk := links_any q c l f a q1 c1 V x (HS.out.below hbx) (HLW.out.below hbx) (by omega) HA.out (by rw [HVL.out]; exact HV4.out.below (Rc.undrew hx))
      rw [HV12.out, HVL.out, ← HL.out] at hlk
      have HLK := Lib.hid hlk
      clear hlk
      go_wp2_with fail
      refine HLK.out.mono ?_
      rintro e x' ⟨v, rfl, hown, hb⟩
      obtain ⟨q', c', rfl⟩ := Ow_form hown.2
      have how := hown.2
      rw [HE1.out] at how ⊢
      go_wp2_with fail
      exact hK ⟨q', c', undef⟩ x' hb (fun F y hF hy => Rd.of_ow (OwF.fresh how hle hF hy).1)
    intro K hK; go_simp; refine hK _ ?_; clear hK K
    iterate 1 (refine Rc.rK rfl rfl ?_; intro K hK; apply Exists.intro; refine ⟨?_, ?_⟩; (focus (intro x hx;  go_simp; (first | (fail) | ((try go_bits); (try go_simp); (try rfl))))); go_simp; refine hK _ ?_; clear hK K)
    refine Rc.r_load rfl rfl _ _ rfl (.agg (pastA g b (.slice q2 n c2))) (fun x hx => load_past (Rp.row_le (Rc.undrew hx) HQ4.out) HB.out) ?_; intro K hK; go_simp; refine hK _ ?_; clear hK K
    refine Rc.fK rfl rfl rfl rfl ?_ ?_
    · intro x Fs hx hle hg K hK
      have hbx := HB4.out.trans ((Rc.undrew hx).mono HB4.out.size)
      have hlk := links_any q c l g b q2 c2 N x (HS.out.below hbx) (HLW.out.below hbx) (by omega) HB.out (by rw [HNL.out]; exact HN4.out.below (Rc.undrew hx))
      rw [HN12.out, HNL.out, ← HM.out] at hlk
      have HLK := Lib.hid hlk
      clear hlk
      go_wp2_with fail
      refine HLK.out.mono ?_
      rintro e x' ⟨v, rfl, hown, hb⟩
      obtain ⟨q', c', rfl⟩ := Ow_form hown.2
      have how := hown.2
      rw [HE2.out] at how ⊢
      go_wp2_with fail
      exact hK ⟨q', c', undef⟩ x' hb (fun F y hF hy => Rd.of_ow (OwF.fresh how hle hF hy).1)
    intro K hK; go_simp; refine hK _ ?_; clear hK K
    iterate 2 (refine Rc.rK rfl rfl ?_; intro K hK; apply Exists.intro; refine ⟨?_, ?_⟩; (focus (intro x hx;  go_simp; (first | (fail) | ((try go_bits); (try go_simp); (try rfl))))); go_simp; refine hK _ ?_; clear hK K)
    refine Rc.done fun x5 Fs5 hx hle hg => ?_
    obtain ⟨q3, hq3⟩ : ∃ q3, q3 = (p 2).q := ⟨_, rfl⟩
    obtain ⟨c3, hc3⟩ : ∃ c3, c3 = (p 2).c := ⟨_, rfl⟩
    obtain ⟨q4, hq4⟩ : ∃ q4, q4 = (p 5).q := ⟨_, rfl⟩
    obtain ⟨c4, hc4⟩ : ∃ c4, c4 = (p 5).c := ⟨_, rfl⟩
    have HRL : Hid (RdL x5 (.slice q3 L.length c3) L) := Lib.hid ⟨HA1.out, by rw [HE1.out, hq3, hc3]; exact hg.1⟩
    have HRM : Hid (RdL x5 (.slice q4 M.length c4) M) := Lib.hid ⟨HA2.out, by rw [HE2.out, hq4, hc4]; exact hg.2.1⟩
    have HV5 := Lib.hid (HV4.out.below (Rc.undrew hx))
    have HN5 := Lib.hid (HN4.out.below (Rc.undrew hx))
    have HP5 := Lib.hid (Rp.row_le (Rc.undrew hx) HP4.out)
    have HQ5 := Lib.hid (Rp.row_le (Rc.undrew hx) HQ4.out)
    have HB5 := Lib.hid (HB4.out.trans ((Rc.undrew hx).mono HB4.out.size))
    rw [← hq3, ← hc3, ← hq4, ← hc4]
    clear hq3 hc3 hq4 hc4 hx hle hg HP4 HQ4 HB4 HV4 HN4
    obtain ⟨m, hm⟩ : ∃ m, m = n - 1 := ⟨_, rfl⟩
    have hmI : (n : Int) - 1 = (m : Int) := by omega
    have hmn : m < n := by omega
    have hmnI : (m : Int) < n := by omega
    have HMN : Hid (m + 1 = n) := Lib.hid (by omega)
    clear hm
    obtain ⟨b3, o3, hqe3, hb3, _, _, hld3⟩ := HRL.out.load (k := m) (by rw [HE1.out]; exact hmn)
    obtain ⟨b4, o4, hqe4, hb4, _, _, hld4⟩ := HRM.out.load (k := m) (by rw [HE2.out]; exact hmn)
    subst hqe3 hqe4
    have HX1 := Lib.hid (HRL.out.1.getD (k := m) (by rw [HE1.out]; exact hmn))
    have HX2 := Lib.hid (HRM.out.1.getD (k := m) (by rw [HE2.out]; exact hmn))
    have hx1e : L.getD m [] = lk l f a V n := by rw [HL.out, lks_getD _ _ hmn, HMN.out]
    have hx2e : M.getD m [] = lk l g b N n := by rw [HM.out, lks_getD _ _ hmn, HMN.out]
    obtain ⟨X1, hX1⟩ : ∃ X1, X1 = L.getD m [] := ⟨_, rfl⟩
    obtain ⟨X2, hX2⟩ : ∃ X2, X2 = M.getD m [] := ⟨_, rfl⟩
    rw [← hX1] at hld3 HX1 hx1e
    rw [← hX2] at hld4 HX2 hx2e
    have HLD3 := Lib.hid hld3
    have HLD4 := Lib.hid hld4
    have HE3 := Lib.hid hx1e
    have HE4 := Lib.hid hx2e
    have hxl1 := HX1.out
    have hxl2 := HX2.out
    have haL := HA.out
    have hbL := HB.out
    clear hld3 hld4 hx1e hx2e hX1 hX2 hb3 hb4 h0
    rw [HE1.out] at HRL
    rw [HE2.out] at HRM
    have c0 := past_from HP5.out
    have d0 := past_from HQ5.out
    have c33 := past_roots HP5.out HA.out
    have d33 := past_roots HQ5.out HB.out
    have hgp := lt_of_heap HP5.out
    have hgq := lt_of_heap HQ5.out
    go_wp2_with fail
    refine NoPanic.normal ?_
    go_wp2_with fail
    cases heX : (X1 == X2) with
    | false =>
      have hne : X1 ≠ X2 := by simpa using heX
      refine Rc.region (x5.heap.size) 34 [] [] (by kernel_rfl) (Nat.le_refl _) (by kernel_rfl) ?_; intro p; simp only [List.take_succ_cons, List.take_zero, List.take_nil, List.drop_succ_cons, List.drop_zero, List.drop_nil]
      iterate 4 (refine Rc.rK rfl rfl ?_; intro K hK; apply Exists.intro; refine ⟨?_, ?_⟩; (focus (intro x hx;  go_simp; (first | (fail) | ((try go_bits); (try go_simp); (try rfl))))); go_simp; refine hK _ ?_; clear hK K)
      refine Rc.r_load rfl rfl _ _ rfl (.agg (bysA X1)) (fun x hx => HLD3.out x (Rc.undrew hx)) ?_; intro K hK; go_simp; refine hK _ ?_; clear hK K
      iterate 4 (refine Rc.rK rfl rfl ?_; intro K hK; apply Exists.intro; refine ⟨?_, ?_⟩; (focus (intro x hx;  go_simp; (first | (fail) | ((try go_bits); (try go_simp); (try rfl))))); go_simp; refine hK _ ?_; clear hK K)
      refine Rc.r_load rfl rfl _ _ rfl (.agg (bysA X2)) (fun x hx => HLD4.out x (Rc.undrew hx)) ?_; intro K hK; go_simp; refine hK _ ?_; clear hK K
      iterate 2 (refine Rc.rK rfl rfl ?_; intro K hK; apply Exists.intro; refine ⟨?_, ?_⟩; (focus (intro x hx;  go_simp; (first | (fail) | ((try go_bits); (try go_simp); (try rfl))))); go_simp; refine hK _ ?_; clear hK K)
      iterate 21 (refine Rc.rSkip rfl rfl ?_; intro K hK; go_simp; refine hK _ ?_; clear hK K)
      iterate 1 (refine Rc.rK rfl rfl ?_; intro K hK; apply Exists.intro; refine ⟨?_, ?_⟩; (focus (intro x hx;  go_simp; (first | (fail) | ((try go_bits); (try go_simp); (try rfl))))); go_simp; refine hK _ ?_; clear hK K)
      refine Rc.done fun x6 Fs6 hx hle hg => ?_
      have HB6 := Lib.hid (HB5.out.trans ((Rc.undrew hx).mono HB5.out.size))
      clear hx hle hg c0 d0 c33 d33
      go_wp2_with fail
      refine NoPanic.normal ?_
      go_wp2_with fail
      go_ret
      exact ⟨rfl, HB6.out⟩
    | true =>
      have heq : X1 = X2 := by simpa using heX
      cases hfg : (f == g) with
      | false =>
        have hfgn : f ≠ g := by simpa using hfg
        refine Rc.region (x5.heap.size) 34 [] [] (by kernel_rfl) (Nat.le_refl _) (by kernel_rfl) ?_; intro p; simp only [List.take_succ_cons, List.take_zero, List.take_nil, List.drop_succ_cons, List.drop_zero, List.drop_nil]
        iterate 4 (refine Rc.rK rfl rfl ?_; intro K hK; apply Exists.intro; refine ⟨?_, ?_⟩; (focus (intro x hx;  go_simp; (first | (fail) | ((try go_bits); (try go_simp); (try rfl))))); go_simp; refine hK _ ?_; clear hK K)
        refine Rc.r_load rfl rfl _ _ rfl (.agg (bysA X1)) (fun x hx => HLD3.out x (Rc.undrew hx)) ?_; intro K hK; go_simp; refine hK _ ?_; clear hK K
        iterate 4 (refine Rc.rK rfl rfl ?_; intro K hK; apply Exists.intro; refine ⟨?_, ?_⟩; (focus (intro x hx;  go_simp; (first | (fail) | ((try go_bits); (try go_simp); (try rfl))))); go_simp; refine hK _ ?_; clear hK K)
        refine Rc.r_load rfl rfl _ _ rfl (.agg (bysA X2)) (fun x hx => HLD4.out x (Rc.undrew hx)) ?_; intro K hK; go_simp; refine hK _ ?_; clear hK K
        iterate 2 (refine Rc.rK rfl rfl ?_; intro K hK; apply Exists.intro; refine ⟨?_, ?_⟩; (focus (intro x hx;  go_simp; (first | (fail) | ((try go_bits); (try go_simp); (try rfl))))); go_simp; refine hK _ ?_; clear hK K)
        iterate 6 (refine Rc.rK rfl rfl ?_; intro K hK; apply Exists.intro; refine ⟨?_, ?_⟩; (focus (intro x hx; have c0x := Rc.cell_le hx hgp c0; have d0x := Rc.cell_le hx hgq d0; go_simp; (first | (fail) | ((try go_bits); (try go_simp); (try rfl))))); go_simp; refine hK _ ?_; clear hK K)
        iterate 5 (refine Rc.rSkip rfl rfl ?_; intro K hK; go_simp; refine hK _ ?_; clear hK K)
        iterate 2 (refine Rc.rK rfl rfl ?_; intro K hK; apply Exists.intro; refine ⟨?_, ?_⟩; (focus (intro x hx;  go_simp; (first | (fail) | ((try go_bits); (try go_simp); (try rfl))))); go_simp; refine hK _ ?_; clear hK K)
        iterate 7 (refine Rc.rSkip rfl rfl ?_; intro K hK; go_simp; refine hK _ ?_; clear hK K)
        iterate 2 (refine Rc.rK rfl rfl ?_; intro K hK; apply Exists.intro; refine ⟨?_, ?_⟩; (focus (intro x hx;  go_simp; (first | (fail) | ((try go_bits); (try go_simp); (try rfl))))); go_simp; refine hK _ ?_; clear hK K)
        have HNE : Hid (¬ (f = g ∧ a = b ∧ V = N)) := Lib.hid (fun h => hfgn h.1)
        refine Rc.done fun x6 Fs6 hx hle hg => ?_
        have HB6 := Lib.hid (HB5.out.trans ((Rc.undrew hx).mono HB5.out.size))
        have HP6 := Lib.hid (Rp.row_le (Rc.undrew hx) HP5.out)
        have HQ6 := Lib.hid (Rp.row_le (Rc.undrew hx) HQ5.out)
        have HV6 := Lib.hid (HV5.out.below (Rc.undrew hx))
        have HN6 := Lib.hid (HN5.out.below (Rc.undrew hx))
        have HRL6 : Hid (RdL x6 (.slice (some ⟨b3, o3, none⟩) L.length c3) L) := Lib.hid (by rw [HE1.out]; exact HRL.out.below (Rc.undrew hx))
        have HRM6 : Hid (RdL x6 (.slice (some ⟨b4, o4, none⟩) M.length c4) M) := Lib.hid (by rw [HE2.out]; exact HRM.out.below (Rc.undrew hx))
        have HLR6 := Lib.hid (HLW.out.below HB6.out)
        have HCL : Hid (clash (tx l f a V L n) (tx l g b N M n) = true) := Lib.hid (by
          have := one_law (id := l) HVL.out HNL.out hn0 HV5.out.1 HN5.out.1 HFG.out.1.1 HFG.out.1.2 HFG.out.2.1 HFG.out.2.2 (by rw [← HE3.out, ← HE4.out]; exact heq) HNE.out
          rw [← HL.out, ← HM.out] at this
          exact this)
        have HTL1 := Lib.hid (tx_length l f a V L n)
        have HTL2 := Lib.hid (tx_length l g b N M n)
        have HTS1 : Hid (∀ x ∈ tx l f a V L n, x.length ≤ 70368744177664) := Lib.hid (fun x hx => tx_small (by rw [HVL.out]; exact Nat.le_refl _) HV5.out.1 HA.out HA1.out (by rw [HE1.out]; exact Nat.le_refl _) (by omega) x hx)
        have HTS2 : Hid (∀ x ∈ tx l g b N M n, x.length ≤ 70368744177664) := Lib.hid (fun x hx => tx_small (by rw [HNL.out]; exact Nat.le_refl _) HN5.out.1 HB.out HA2.out (by rw [HE2.out]; exact Nat.le_refl _) (by omega) x hx)
        clear hx hle hg c0 d0 c33 d33 hgp hgq
        go_wp2_with fail
        refine NoPanic.normal ?_
        go_wp2_with fail
        refine Rc.region (x6.heap.size) 12 [Rc.F 4 (fun p => .slice p.q n p.c) (fun p _ y => Rd y 1 (.slice p.q n p.c) n (strs (tx l f a V L n))), Rc.F 9 (fun p => .slice p.q n p.c) (fun p _ y => Rd y 1 (.slice p.q n p.c) n (strs (tx l g b N M n))), Rc.G 10 [4, 9] (fun _ => .bool true) (fun _ _ _ => True)] [] (by kernel_rfl) (Nat.le_refl _) (by kernel_rfl) ?_; intro p; simp only [List.take_succ_cons, List.take_zero, List.take_nil, List.drop_succ_cons, List.drop_zero, List.drop_nil]
        iterate 1 (refine Rc.rK rfl rfl ?_; intro K hK; apply Exists.intro; refine ⟨?_, ?_⟩; (focus (intro x hx;  go_simp; (first | (fail) | ((try go_bits); (try go_simp); (try rfl))))); go_simp; refine hK _ ?_; clear hK K)
        refine Rc.r_str rfl rfl 28 9 _ rfl 5 Tryd.underlying9 Tryd.underlying28 Tryd.underlying5 _ _ (l) rfl (fun x hx => HLR6.out.below (Rc.undrew hx)) ?_; intro K hK; go_simp; refine hK _ ?_; clear hK K
        refine Rc.r_load rfl rfl _ _ rfl (.agg (pastA f a (.slice q1 n c1))) (fun x hx => load_past (Rp.row_le (Rc.undrew hx) HP6.out) HA.out) ?_; intro K hK; go_simp; refine hK _ ?_; clear hK K
        iterate 1 (refine Rc.rK rfl rfl ?_; intro K hK; apply Exists.intro; refine ⟨?_, ?_⟩; (focus (intro x hx;  go_simp; (first | (fail) | ((try go_bits); (try go_simp); (try rfl))))); go_simp; refine hK _ ?_; clear hK K)
        refine Rc.fK rfl rfl rfl rfl ?_ ?_
        · intro x Fs hx hle hg K hK
          have ht := texts18_any l f a q1 (some ⟨b3, o3, none⟩) c1 c3 V L x (by omega) HA.out (by rw [HVL.out]; exact HV6.out.below (Rc.undrew hx)) (HRL6.out.below (Rc.undrew hx)) (by rw [HVL.out, HE1.out]; exact Nat.le_refl _) (by rw [HVL.out]; omega)
          rw [HVL.out, HE1.out] at ht
          have HTX := Lib.hid ht
          clear ht
          go_wp2_with fail
          refine HTX.out.mono ?_
          rintro e x' ⟨v, rfl, hown, hb⟩
          obtain ⟨q', c', rfl⟩ := Ow_form hown
          go_wp2_with fail
          exact hK ⟨q', c', undef⟩ x' hb (fun F y hF hy => Rd.of_ow (OwF.fresh hown hle hF hy).1)
        intro K hK; go_simp; refine hK _ ?_; clear hK K
        iterate 1 (refine Rc.rK rfl rfl ?_; intro K hK; apply Exists.intro; refine ⟨?_, ?_⟩; (focus (intro x hx;  go_simp; (first | (fail) | ((try go_bits); (try go_simp); (try rfl))))); go_simp; refine hK _ ?_; clear hK K)
        refine Rc.r_str rfl rfl 28 9 _ rfl 5 Tryd.underlying9 Tryd.underlying28 Tryd.underlying5 _ _ (l) rfl (fun x hx => HLR6.out.below (Rc.undrew hx)) ?_; intro K hK; go_simp; refine hK _ ?_; clear hK K
        refine Rc.r_load rfl rfl _ _ rfl (.agg (pastA g b (.slice q2 n c2))) (fun x hx => load_past (Rp.row_le (Rc.undrew hx) HQ6.out) HB.out) ?_; intro K hK; go_simp; refine hK _ ?_; clear hK K
        iterate 1 (refine Rc.rK rfl rfl ?_; intro K hK; apply Exists.intro; refine ⟨?_, ?_⟩; (focus (intro x hx;  go_simp; (first | (fail) | ((try go_bits); (try go_simp); (try rfl))))); go_simp; refine hK _ ?_; clear hK K)
        refine Rc.fK rfl rfl rfl rfl ?_ ?_
        · intro x Fs hx hle hg K hK
          have ht := texts18_any l g b q2 (some ⟨b4, o4, none⟩) c2 c4 N M x (by omega) HB.out (by rw [HNL.out]; exact HN6.out.below (Rc.undrew hx)) (HRM6.out.below (Rc.undrew hx)) (by rw [HNL.out, HE2.out]; exact Nat.le_refl _) (by rw [HNL.out]; omega)
          rw [HNL.out, HE2.out] at ht
          have HTX := Lib.hid ht
          clear ht
          go_wp2_with fail
          refine HTX.out.mono ?_
          rintro e x' ⟨v, rfl, hown, hb⟩
          obtain ⟨q', c', rfl⟩ := Ow_form hown
          go_wp2_with fail
          exact hK ⟨q', c', undef⟩ x' hb (fun F y hF hy => Rd.of_ow (OwF.fresh hown hle hF hy).1)
        intro K hK; go_simp; refine hK _ ?_; clear hK K
        refine Rc.fK rfl rfl rfl rfl ?_ ?_
        · intro x Fs hx hle hg K hK
          have hbx := HB6.out.trans ((Rc.undrew hx).mono HB6.out.size)
          have ht := clash_any (p 4).q (p 9).q (p 4).c (p 9).c (tx l f a V L n) (tx l g b N M n) x (HT.out.below hbx) (by rw [HTL1.out]; exact hg.1) (by rw [HTL2.out]; exact hg.2.1) HTS1.out HTS2.out
          rw [HTL1.out, HTL2.out, HCL.out] at ht
          have HTX := Lib.hid ht
          clear ht hg
          go_wp2_with fail
          refine HTX.out.mono ?_
          rintro e x' ⟨rfl, hb⟩
          go_wp2_with fail
          exact hK Rc.dflt x' hb (fun _ _ _ _ => trivial)
        intro K hK; go_simp; refine hK _ ?_; clear hK K
        iterate 1 (refine Rc.rK rfl rfl ?_; intro K hK; apply Exists.intro; refine ⟨?_, ?_⟩; (focus (intro x hx;  go_simp; (first | (fail) | ((try go_bits); (try go_simp); (try rfl))))); go_simp; refine hK _ ?_; clear hK K)
        refine Rc.done fun x7 Fs7 hx hle hg => ?_
        have HB7 := Lib.hid (HB6.out.trans ((Rc.undrew hx).mono HB6.out.size))
        clear hx hle hg
        go_wp2_with fail
        refine NoPanic.normal ?_
        go_wp2_with fail
        go_ret
        exact ⟨rfl, HB7.out⟩
      | true =>
        cases hab : (a == b) with
        | false =>
          have habn : a ≠ b := by simpa using hab
          refine Rc.region (x5.heap.size) 34 [] [] (by kernel_rfl) (Nat.le_refl _) (by kernel_rfl) ?_; intro p; simp only [List.take_succ_cons, List.take_zero, List.take_nil, List.drop_succ_cons, List.drop_zero, List.drop_nil]
          iterate 4 (refine Rc.rK rfl rfl ?_; intro K hK; apply Exists.intro; refine ⟨?_, ?_⟩; (focus (intro x hx;  go_simp; (first | (fail) | ((try go_bits); (try go_simp); (try rfl))))); go_simp; refine hK _ ?_; clear hK K)
          refine Rc.r_load rfl rfl _ _ rfl (.agg (bysA X1)) (fun x hx => HLD3.out x (Rc.undrew hx)) ?_; intro K hK; go_simp; refine hK _ ?_; clear hK K
          iterate 4 (refine Rc.rK rfl rfl ?_; intro K hK; apply Exists.intro; refine ⟨?_, ?_⟩; (focus (intro x hx;  go_simp; (first | (fail) | ((try go_bits); (try go_simp); (try rfl))))); go_simp; refine hK _ ?_; clear hK K)
          refine Rc.r_load rfl rfl _ _ rfl (.agg (bysA X2)) (fun x hx => HLD4.out x (Rc.undrew hx)) ?_; intro K hK; go_simp; refine hK _ ?_; clear hK K
          iterate 2 (refine Rc.rK rfl rfl ?_; intro K hK; apply Exists.intro; refine ⟨?_, ?_⟩; (focus (intro x hx;  go_simp; (first | (fail) | ((try go_bits); (try go_simp); (try rfl))))); go_simp; refine hK _ ?_; clear hK K)
          iterate 7 (refine Rc.rK rfl rfl ?_; intro K hK; apply Exists.intro; refine ⟨?_, ?_⟩; (focus (intro x hx; have c0x := Rc.cell_le hx hgp c0; have d0x := Rc.cell_le hx hgq d0; go_simp; (first | (fail) | ((try go_bits); (try go_simp); (try rfl))))); go_simp; refine hK _ ?_; clear hK K)
          refine Rc.r_load rfl rfl _ _ rfl (.agg (bysA a)) (fun x hx => past_ahead (Rp.row_le (Rc.undrew hx) HP5.out) HA.out) ?_; intro K hK; go_simp; refine hK _ ?_; clear hK K
          iterate 1 (refine Rc.rK rfl rfl ?_; intro K hK; apply Exists.intro; refine ⟨?_, ?_⟩; (focus (intro x hx;  go_simp; (first | (fail) | ((try go_bits); (try go_simp); (try rfl))))); go_simp; refine hK _ ?_; clear hK K)
          refine Rc.r_load rfl rfl _ _ rfl (.agg (bysA b)) (fun x hx => past_ahead (Rp.row_le (Rc.undrew hx) HQ5.out) HB.out) ?_; intro K hK; go_simp; refine hK _ ?_; clear hK K
          iterate 3 (refine Rc.rK rfl rfl ?_; intro K hK; apply Exists.intro; refine ⟨?_, ?_⟩; (focus (intro x hx;  go_simp; (first | (fail) | ((try go_bits); (try go_simp); (try rfl))))); go_simp; refine hK _ ?_; clear hK K)
          iterate 7 (refine Rc.rSkip rfl rfl ?_; intro K hK; go_simp; refine hK _ ?_; clear hK K)
          iterate 2 (refine Rc.rK rfl rfl ?_; intro K hK; apply Exists.intro; refine ⟨?_, ?_⟩; (focus (intro x hx;  go_simp; (first | (fail) | ((try go_bits); (try go_simp); (try rfl))))); go_simp; refine hK _ ?_; clear hK K)
          have HNE : Hid (¬ (f = g ∧ a = b ∧ V = N)) := Lib.hid (fun h => habn h.2.1)
          refine Rc.done fun x6 Fs6 hx hle hg => ?_
          have HB6 := Lib.hid (HB5.out.trans ((Rc.undrew hx).mono HB5.out.size))
          have HP6 := Lib.hid (Rp.row_le (Rc.undrew hx) HP5.out)
          have HQ6 := Lib.hid (Rp.row_le (Rc.undrew hx) HQ5.out)
          have HV6 := Lib.hid (HV5.out.below (Rc.undrew hx))
          have HN6 := Lib.hid (HN5.out.below (Rc.undrew hx))
          have HRL6 : Hid (RdL x6 (.slice (some ⟨b3, o3, none⟩) L.length c3) L) := Lib.hid (by rw [HE1.out]; exact HRL.out.below (Rc.undrew hx))
          have HRM6 : Hid (RdL x6 (.slice (some ⟨b4, o4, none⟩) M.length c4) M) := Lib.hid (by rw [HE2.out]; exact HRM.out.below (Rc.undrew hx))
          have HLR6 := Lib.hid (HLW.out.below HB6.out)
          have HCL : Hid (clash (tx l f a V L n) (tx l g b N M n) = true) := Lib.hid (by
            have := one_law (id := l) HVL.out HNL.out hn0 HV5.out.1 HN5.out.1 HFG.out.1.1 HFG.out.1.2 HFG.out.2.1 HFG.out.2.2 (by rw [← HE3.out, ← HE4.out]; exact heq) HNE.out
            rw [← HL.out, ← HM.out] at this
            exact this)
          have HTL1 := Lib.hid (tx_length l f a V L n)
          have HTL2 := Lib.hid (tx_length l g b N M n)
          have HTS1 : Hid (∀ x ∈ tx l f a V L n, x.length ≤ 70368744177664) := Lib.hid (fun x hx => tx_small (by rw [HVL.out]; exact Nat.le_refl _) HV5.out.1 HA.out HA1.out (by rw [HE1.out]; exact Nat.le_refl _) (by omega) x hx)
          have HTS2 : Hid (∀ x ∈ tx l g b N M n, x.length ≤ 70368744177664) := Lib.hid (fun x hx => tx_small (by rw [HNL.out]; exact Nat.le_refl _) HN5.out.1 HB.out HA2.out (by rw [HE2.out]; exact Nat.le_refl _) (by omega) x hx)
          clear hx hle hg c0 d0 c33 d33 hgp hgq
          go_wp2_with fail
          refine NoPanic.normal ?_
          go_wp2_with fail
          refine Rc.region (x6.heap.size) 12 [Rc.F 4 (fun p => .slice p.q n p.c) (fun p _ y => Rd y 1 (.slice p.q n p.c) n (strs (tx l f a V L n))), Rc.F 9 (fun p => .slice p.q n p.c) (fun p _ y => Rd y 1 (.slice p.q n p.c) n (strs (tx l g b N M n))), Rc.G 10 [4, 9] (fun _ => .bool true) (fun _ _ _ => True)] [] (by kernel_rfl) (Nat.le_refl _) (by kernel_rfl) ?_; intro p; simp only [List.take_succ_cons, List.take_zero, List.take_nil, List.drop_succ_cons, List.drop_zero, List.drop_nil]
          iterate 1 (refine Rc.rK rfl rfl ?_; intro K hK; apply Exists.intro; refine ⟨?_, ?_⟩; (focus (intro x hx;  go_simp; (first | (fail) | ((try go_bits); (try go_simp); (try rfl))))); go_simp; refine hK _ ?_; clear hK K)
          refine Rc.r_str rfl rfl 28 9 _ rfl 5 Tryd.underlying9 Tryd.underlying28 Tryd.underlying5 _ _ (l) rfl (fun x hx => HLR6.out.below (Rc.undrew hx)) ?_; intro K hK; go_simp; refine hK _ ?_; clear hK K
          refine Rc.r_load rfl rfl _ _ rfl (.agg (pastA f a (.slice q1 n c1))) (fun x hx => load_past (Rp.row_le (Rc.undrew hx) HP6.out) HA.out) ?_; intro K hK; go_simp; refine hK _ ?_; clear hK K
          iterate 1 (refine Rc.rK rfl rfl ?_; intro K hK; apply Exists.intro; refine ⟨?_, ?_⟩; (focus (intro x hx;  go_simp; (first | (fail) | ((try go_bits); (try go_simp); (try rfl))))); go_simp; refine hK _ ?_; clear hK K)
          refine Rc.fK rfl rfl rfl rfl ?_ ?_
          · intro x Fs hx hle hg K hK
            have ht := texts18_any l f a q1 (some ⟨b3, o3, none⟩) c1 c3 V L x (by omega) HA.out (by rw [HVL.out]; exact HV6.out.below (Rc.undrew hx)) (HRL6.out.below (Rc.undrew hx)) (by rw [HVL.out, HE1.out]; exact Nat.le_refl _) (by rw [HVL.out]; omega)
            rw [HVL.out, HE1.out] at ht
            have HTX := Lib.hid ht
            clear ht
            go_wp2_with fail
            refine HTX.out.mono ?_
            rintro e x' ⟨v, rfl, hown, hb⟩
            obtain ⟨q', c', rfl⟩ := Ow_form hown
            go_wp2_with fail
            exact hK ⟨q', c', undef⟩ x' hb (fun F y hF hy => Rd.of_ow (OwF.fresh hown hle hF hy).1)
          intro K hK; go_simp; refine hK _ ?_; clear hK K
          iterate 1 (refine Rc.rK rfl rfl ?_; intro K hK; apply Exists.intro; refine ⟨?_, ?_⟩; (focus (intro x hx;  go_simp; (first | (fail) | ((try go_bits); (try go_simp); (try rfl))))); go_simp; refine hK _ ?_; clear hK K)
          refine Rc.r_str rfl rfl 28 9 _ rfl 5 Tryd.underlying9 Tryd.underlying28 Tryd.underlying5 _ _ (l) rfl (fun x hx => HLR6.out.below (Rc.undrew hx)) ?_; intro K hK; go_simp; refine hK _ ?_; clear hK K
          refine Rc.r_load rfl rfl _ _ rfl (.agg (pastA g b (.slice q2 n c2))) (fun x hx => load_past (Rp.row_le (Rc.undrew hx) HQ6.out) HB.out) ?_; intro K hK; go_simp; refine hK _ ?_; clear hK K
          iterate 1 (refine Rc.rK rfl rfl ?_; intro K hK; apply Exists.intro; refine ⟨?_, ?_⟩; (focus (intro x hx;  go_simp; (first | (fail) | ((try go_bits); (try go_simp); (try rfl))))); go_simp; refine hK _ ?_; clear hK K)
          refine Rc.fK rfl rfl rfl rfl ?_ ?_
          · intro x Fs hx hle hg K hK
            have ht := texts18_any l g b q2 (some ⟨b4, o4, none⟩) c2 c4 N M x (by omega) HB.out (by rw [HNL.out]; exact HN6.out.below (Rc.undrew hx)) (HRM6.out.below (Rc.undrew hx)) (by rw [HNL.out, HE2.out]; exact Nat.le_refl _) (by rw [HNL.out]; omega)
            rw [HNL.out, HE2.out] at ht
            have HTX := Lib.hid ht
            clear ht
            go_wp2_with fail
            refine HTX.out.mono ?_
            rintro e x' ⟨v, rfl, hown, hb⟩
            obtain ⟨q', c', rfl⟩ := Ow_form hown
            go_wp2_with fail
            exact hK ⟨q', c', undef⟩ x' hb (fun F y hF hy => Rd.of_ow (OwF.fresh hown hle hF hy).1)
          intro K hK; go_simp; refine hK _ ?_; clear hK K
          refine Rc.fK rfl rfl rfl rfl ?_ ?_
          · intro x Fs hx hle hg K hK
            have hbx := HB6.out.trans ((Rc.undrew hx).mono HB6.out.size)
            have ht := clash_any (p 4).q (p 9).q (p 4).c (p 9).c (tx l f a V L n) (tx l g b N M n) x (HT.out.below hbx) (by rw [HTL1.out]; exact hg.1) (by rw [HTL2.out]; exact hg.2.1) HTS1.out HTS2.out
            rw [HTL1.out, HTL2.out, HCL.out] at ht
            have HTX := Lib.hid ht
            clear ht hg
            go_wp2_with fail
            refine HTX.out.mono ?_
            rintro e x' ⟨rfl, hb⟩
            go_wp2_with fail
            exact hK Rc.dflt x' hb (fun _ _ _ _ => trivial)
          intro K hK; go_simp; refine hK _ ?_; clear hK K
          iterate 1 (refine Rc.rK rfl rfl ?_; intro K hK; apply Exists.intro; refine ⟨?_, ?_⟩; (focus (intro x hx;  go_simp; (first | (fail) | ((try go_bits); (try go_simp); (try rfl))))); go_simp; refine hK _ ?_; clear hK K)
          refine Rc.done fun x7 Fs7 hx hle hg => ?_
          have HB7 := Lib.hid (HB6.out.trans ((Rc.undrew hx).mono HB6.out.size))
          clear hx hle hg
          go_wp2_with fail
          refine NoPanic.normal ?_
          go_wp2_with fail
          go_ret
          exact ⟨rfl, HB7.out⟩
        | true =>
          cases hvn : (V == N) with
          | false =>
            have HVN : Hid ((V == N) = false) := Lib.hid hvn
            have HNE : Hid (¬ (f = g ∧ a = b ∧ V = N)) := Lib.hid (fun h => by rw [h.2.2] at hvn; simp at hvn)
            clear hvn
            refine Rc.region (x5.heap.size) 34 [Rc.F 27 (fun p => .slice p.q n p.c) (fun p _ y => Rd y 1 (.slice p.q n p.c) n (strs V)), Rc.F 30 (fun p => .slice p.q n p.c) (fun p _ y => Rd y 1 (.slice p.q n p.c) n (strs N)), Rc.G 31 [27, 30] (fun _ => .bool false) (fun _ _ _ => True)] [] (by kernel_rfl) (Nat.le_refl _) (by kernel_rfl) ?_; intro p; simp only [List.take_succ_cons, List.take_zero, List.take_nil, List.drop_succ_cons, List.drop_zero, List.drop_nil]
            iterate 4 (refine Rc.rK rfl rfl ?_; intro K hK; apply Exists.intro; refine ⟨?_, ?_⟩; (focus (intro x hx;  go_simp; (first | (fail) | ((try go_bits); (try go_simp); (try rfl))))); go_simp; refine hK _ ?_; clear hK K)
            refine Rc.r_load rfl rfl _ _ rfl (.agg (bysA X1)) (fun x hx => HLD3.out x (Rc.undrew hx)) ?_; intro K hK; go_simp; refine hK _ ?_; clear hK K
            iterate 4 (refine Rc.rK rfl rfl ?_; intro K hK; apply Exists.intro; refine ⟨?_, ?_⟩; (focus (intro x hx;  go_simp; (first | (fail) | ((try go_bits); (try go_simp); (try rfl))))); go_simp; refine hK _ ?_; clear hK K)
            refine Rc.r_load rfl rfl _ _ rfl (.agg (bysA X2)) (fun x hx => HLD4.out x (Rc.undrew hx)) ?_; intro K hK; go_simp; refine hK _ ?_; clear hK K
            iterate 2 (refine Rc.rK rfl rfl ?_; intro K hK; apply Exists.intro; refine ⟨?_, ?_⟩; (focus (intro x hx;  go_simp; (first | (fail) | ((try go_bits); (try go_simp); (try rfl))))); go_simp; refine hK _ ?_; clear hK K)
            iterate 7 (refine Rc.rK rfl rfl ?_; intro K hK; apply Exists.intro; refine ⟨?_, ?_⟩; (focus (intro x hx; have c0x := Rc.cell_le hx hgp c0; have d0x := Rc.cell_le hx hgq d0; go_simp; (first | (fail) | ((try go_bits); (try go_simp); (try rfl))))); go_simp; refine hK _ ?_; clear hK K)
            refine Rc.r_load rfl rfl _ _ rfl (.agg (bysA a)) (fun x hx => past_ahead (Rp.row_le (Rc.undrew hx) HP5.out) HA.out) ?_; intro K hK; go_simp; refine hK _ ?_; clear hK K
            iterate 1 (refine Rc.rK rfl rfl ?_; intro K hK; apply Exists.intro; refine ⟨?_, ?_⟩; (focus (intro x hx;  go_simp; (first | (fail) | ((try go_bits); (try go_simp); (try rfl))))); go_simp; refine hK _ ?_; clear hK K)
            refine Rc.r_load rfl rfl _ _ rfl (.agg (bysA b)) (fun x hx => past_ahead (Rp.row_le (Rc.undrew hx) HQ5.out) HB.out) ?_; intro K hK; go_simp; refine hK _ ?_; clear hK K
            iterate 5 (refine Rc.rK rfl rfl ?_; intro K hK; apply Exists.intro; refine ⟨?_, ?_⟩; (focus (intro x hx; have c33x := Rc.cell_le hx hgp c33; have d33x := Rc.cell_le hx hgq d33; go_simp; (first | (fail) | ((try go_bits); (try go_simp); (try rfl))))); go_simp; refine hK _ ?_; clear hK K)
            refine Rc.fK rfl rfl rfl rfl ?_ ?_
            · intro x Fs hx hle hg K hK
              have ht := texts16_any q1 c1 V x (by rw [HVL.out]; exact HV5.out.below (Rc.undrew hx)) (by rw [HVL.out]; omega)
              rw [HVL.out] at ht
              have HTX := Lib.hid ht
              clear ht
              go_wp2_with fail
              refine HTX.out.mono ?_
              rintro e x' ⟨v, rfl, hown, hb⟩
              obtain ⟨q', c', rfl⟩ := Ow_form hown
              go_wp2_with fail
              exact hK ⟨q', c', undef⟩ x' hb (fun F y hF hy => Rd.of_ow (OwF.fresh hown hle hF hy).1)
            intro K hK; go_simp; refine hK _ ?_; clear hK K
            iterate 2 (refine Rc.rK rfl rfl ?_; intro K hK; apply Exists.intro; refine ⟨?_, ?_⟩; (focus (intro x hx; have c33x := Rc.cell_le hx hgp c33; have d33x := Rc.cell_le hx hgq d33; go_simp; (first | (fail) | ((try go_bits); (try go_simp); (try rfl))))); go_simp; refine hK _ ?_; clear hK K)
            refine Rc.fK rfl rfl rfl rfl ?_ ?_
            · intro x Fs hx hle hg K hK
              have ht := texts16_any q2 c2 N x (by rw [HNL.out]; exact HN5.out.below (Rc.undrew hx)) (by rw [HNL.out]; omega)
              rw [HNL.out] at ht
              have HTX := Lib.hid ht
              clear ht
              go_wp2_with fail
              refine HTX.out.mono ?_
              rintro e x' ⟨v, rfl, hown, hb⟩
              obtain ⟨q', c', rfl⟩ := Ow_form hown
              go_wp2_with fail
              exact hK ⟨q', c', undef⟩ x' hb (fun F y hF hy => Rd.of_ow (OwF.fresh hown hle hF hy).1)
            intro K hK; go_simp; refine hK _ ?_; clear hK K
            refine Rc.fK rfl rfl rfl rfl ?_ ?_
            · intro x Fs hx hle hg K hK
              have ht := same16_any (p 27).q (p 30).q (p 27).c (p 30).c V N x (by rw [HVL.out]; exact hg.1) (by rw [HNL.out]; exact hg.2.1)
              rw [HVL.out, HNL.out, HVN.out] at ht
              have HTX := Lib.hid ht
              clear ht hg
              go_wp2_with fail
              refine HTX.out.mono ?_
              rintro e x' ⟨rfl, hb⟩
              go_wp2_with fail
              exact hK Rc.dflt x' hb (fun _ _ _ _ => trivial)
            intro K hK; go_simp; refine hK _ ?_; clear hK K
            iterate 2 (refine Rc.rK rfl rfl ?_; intro K hK; apply Exists.intro; refine ⟨?_, ?_⟩; (focus (intro x hx;  go_simp; (first | (fail) | ((try go_bits); (try go_simp); (try rfl))))); go_simp; refine hK _ ?_; clear hK K)
            refine Rc.done fun x6 Fs6 hx hle hg => ?_
            have HB6 := Lib.hid (HB5.out.trans ((Rc.undrew hx).mono HB5.out.size))
            have HP6 := Lib.hid (Rp.row_le (Rc.undrew hx) HP5.out)
            have HQ6 := Lib.hid (Rp.row_le (Rc.undrew hx) HQ5.out)
            have HV6 := Lib.hid (HV5.out.below (Rc.undrew hx))
            have HN6 := Lib.hid (HN5.out.below (Rc.undrew hx))
            have HRL6 : Hid (RdL x6 (.slice (some ⟨b3, o3, none⟩) L.length c3) L) := Lib.hid (by rw [HE1.out]; exact HRL.out.below (Rc.undrew hx))
            have HRM6 : Hid (RdL x6 (.slice (some ⟨b4, o4, none⟩) M.length c4) M) := Lib.hid (by rw [HE2.out]; exact HRM.out.below (Rc.undrew hx))
            have HLR6 := Lib.hid (HLW.out.below HB6.out)
            have HCL : Hid (clash (tx l f a V L n) (tx l g b N M n) = true) := Lib.hid (by
              have := one_law (id := l) HVL.out HNL.out hn0 HV5.out.1 HN5.out.1 HFG.out.1.1 HFG.out.1.2 HFG.out.2.1 HFG.out.2.2 (by rw [← HE3.out, ← HE4.out]; exact heq) HNE.out
              rw [← HL.out, ← HM.out] at this
              exact this)
            have HTL1 := Lib.hid (tx_length l f a V L n)
            have HTL2 := Lib.hid (tx_length l g b N M n)
            have HTS1 : Hid (∀ x ∈ tx l f a V L n, x.length ≤ 70368744177664) := Lib.hid (fun x hx => tx_small (by rw [HVL.out]; exact Nat.le_refl _) HV5.out.1 HA.out HA1.out (by rw [HE1.out]; exact Nat.le_refl _) (by omega) x hx)
            have HTS2 : Hid (∀ x ∈ tx l g b N M n, x.length ≤ 70368744177664) := Lib.hid (fun x hx => tx_small (by rw [HNL.out]; exact Nat.le_refl _) HN5.out.1 HB.out HA2.out (by rw [HE2.out]; exact Nat.le_refl _) (by omega) x hx)
            clear hx hle hg c0 d0 c33 d33 hgp hgq
            go_wp2_with fail
            refine NoPanic.normal ?_
            go_wp2_with fail
            refine Rc.region (x6.heap.size) 12 [Rc.F 4 (fun p => .slice p.q n p.c) (fun p _ y => Rd y 1 (.slice p.q n p.c) n (strs (tx l f a V L n))), Rc.F 9 (fun p => .slice p.q n p.c) (fun p _ y => Rd y 1 (.slice p.q n p.c) n (strs (tx l g b N M n))), Rc.G 10 [4, 9] (fun _ => .bool true) (fun _ _ _ => True)] [] (by kernel_rfl) (Nat.le_refl _) (by kernel_rfl) ?_; intro p; simp only [List.take_succ_cons, List.take_zero, List.take_nil, List.drop_succ_cons, List.drop_zero, List.drop_nil]
            iterate 1 (refine Rc.rK rfl rfl ?_; intro K hK; apply Exists.intro; refine ⟨?_, ?_⟩; (focus (intro x hx;  go_simp; (first | (fail) | ((try go_bits); (try go_simp); (try rfl))))); go_simp; refine hK _ ?_; clear hK K)
            refine Rc.r_str rfl rfl 28 9 _ rfl 5 Tryd.underlying9 Tryd.underlying28 Tryd.underlying5 _ _ (l) rfl (fun x hx => HLR6.out.below (Rc.undrew hx)) ?_; intro K hK; go_simp; refine hK _ ?_; clear hK K
            refine Rc.r_load rfl rfl _ _ rfl (.agg (pastA f a (.slice q1 n c1))) (fun x hx => load_past (Rp.row_le (Rc.undrew hx) HP6.out) HA.out) ?_; intro K hK; go_simp; refine hK _ ?_; clear hK K
            iterate 1 (refine Rc.rK rfl rfl ?_; intro K hK; apply Exists.intro; refine ⟨?_, ?_⟩; (focus (intro x hx;  go_simp; (first | (fail) | ((try go_bits); (try go_simp); (try rfl))))); go_simp; refine hK _ ?_; clear hK K)
            refine Rc.fK rfl rfl rfl rfl ?_ ?_
            · intro x Fs hx hle hg K hK
              have ht := texts18_any l f a q1 (some ⟨b3, o3, none⟩) c1 c3 V L x (by omega) HA.out (by rw [HVL.out]; exact HV6.out.below (Rc.undrew hx)) (HRL6.out.below (Rc.undrew hx)) (by rw [HVL.out, HE1.out]; exact Nat.le_refl _) (by rw [HVL.out]; omega)
              rw [HVL.out, HE1.out] at ht
              have HTX := Lib.hid ht
              clear ht
              go_wp2_with fail
              refine HTX.out.mono ?_
              rintro e x' ⟨v, rfl, hown, hb⟩
              obtain ⟨q', c', rfl⟩ := Ow_form hown
              go_wp2_with fail
              exact hK ⟨q', c', undef⟩ x' hb (fun F y hF hy => Rd.of_ow (OwF.fresh hown hle hF hy).1)
            intro K hK; go_simp; refine hK _ ?_; clear hK K
            iterate 1 (refine Rc.rK rfl rfl ?_; intro K hK; apply Exists.intro; refine ⟨?_, ?_⟩; (focus (intro x hx;  go_simp; (first | (fail) | ((try go_bits); (try go_simp); (try rfl))))); go_simp; refine hK _ ?_; clear hK K)
            refine Rc.r_str rfl rfl 28 9 _ rfl 5 Tryd.underlying9 Tryd.underlying28 Tryd.underlying5 _ _ (l) rfl (fun x hx => HLR6.out.below (Rc.undrew hx)) ?_; intro K hK; go_simp; refine hK _ ?_; clear hK K
            refine Rc.r_load rfl rfl _ _ rfl (.agg (pastA g b (.slice q2 n c2))) (fun x hx => load_past (Rp.row_le (Rc.undrew hx) HQ6.out) HB.out) ?_; intro K hK; go_simp; refine hK _ ?_; clear hK K
            iterate 1 (refine Rc.rK rfl rfl ?_; intro K hK; apply Exists.intro; refine ⟨?_, ?_⟩; (focus (intro x hx;  go_simp; (first | (fail) | ((try go_bits); (try go_simp); (try rfl))))); go_simp; refine hK _ ?_; clear hK K)
            refine Rc.fK rfl rfl rfl rfl ?_ ?_
            · intro x Fs hx hle hg K hK
              have ht := texts18_any l g b q2 (some ⟨b4, o4, none⟩) c2 c4 N M x (by omega) HB.out (by rw [HNL.out]; exact HN6.out.below (Rc.undrew hx)) (HRM6.out.below (Rc.undrew hx)) (by rw [HNL.out, HE2.out]; exact Nat.le_refl _) (by rw [HNL.out]; omega)
              rw [HNL.out, HE2.out] at ht
              have HTX := Lib.hid ht
              clear ht
              go_wp2_with fail
              refine HTX.out.mono ?_
              rintro e x' ⟨v, rfl, hown, hb⟩
              obtain ⟨q', c', rfl⟩ := Ow_form hown
              go_wp2_with fail
              exact hK ⟨q', c', undef⟩ x' hb (fun F y hF hy => Rd.of_ow (OwF.fresh hown hle hF hy).1)
            intro K hK; go_simp; refine hK _ ?_; clear hK K
            refine Rc.fK rfl rfl rfl rfl ?_ ?_
            · intro x Fs hx hle hg K hK
              have hbx := HB6.out.trans ((Rc.undrew hx).mono HB6.out.size)
              have ht := clash_any (p 4).q (p 9).q (p 4).c (p 9).c (tx l f a V L n) (tx l g b N M n) x (HT.out.below hbx) (by rw [HTL1.out]; exact hg.1) (by rw [HTL2.out]; exact hg.2.1) HTS1.out HTS2.out
              rw [HTL1.out, HTL2.out, HCL.out] at ht
              have HTX := Lib.hid ht
              clear ht hg
              go_wp2_with fail
              refine HTX.out.mono ?_
              rintro e x' ⟨rfl, hb⟩
              go_wp2_with fail
              exact hK Rc.dflt x' hb (fun _ _ _ _ => trivial)
            intro K hK; go_simp; refine hK _ ?_; clear hK K
            iterate 1 (refine Rc.rK rfl rfl ?_; intro K hK; apply Exists.intro; refine ⟨?_, ?_⟩; (focus (intro x hx;  go_simp; (first | (fail) | ((try go_bits); (try go_simp); (try rfl))))); go_simp; refine hK _ ?_; clear hK K)
            refine Rc.done fun x7 Fs7 hx hle hg => ?_
            have HB7 := Lib.hid (HB6.out.trans ((Rc.undrew hx).mono HB6.out.size))
            clear hx hle hg
            go_wp2_with fail
            refine NoPanic.normal ?_
            go_wp2_with fail
            go_ret
            exact ⟨rfl, HB7.out⟩
          | true =>
            have HVN : Hid ((V == N) = true) := Lib.hid hvn
            clear hvn
            refine Rc.region (x5.heap.size) 34 [Rc.F 27 (fun p => .slice p.q n p.c) (fun p _ y => Rd y 1 (.slice p.q n p.c) n (strs V)), Rc.F 30 (fun p => .slice p.q n p.c) (fun p _ y => Rd y 1 (.slice p.q n p.c) n (strs N)), Rc.G 31 [27, 30] (fun _ => .bool true) (fun _ _ _ => True)] [] (by kernel_rfl) (Nat.le_refl _) (by kernel_rfl) ?_; intro p; simp only [List.take_succ_cons, List.take_zero, List.take_nil, List.drop_succ_cons, List.drop_zero, List.drop_nil]
            iterate 4 (refine Rc.rK rfl rfl ?_; intro K hK; apply Exists.intro; refine ⟨?_, ?_⟩; (focus (intro x hx;  go_simp; (first | (fail) | ((try go_bits); (try go_simp); (try rfl))))); go_simp; refine hK _ ?_; clear hK K)
            refine Rc.r_load rfl rfl _ _ rfl (.agg (bysA X1)) (fun x hx => HLD3.out x (Rc.undrew hx)) ?_; intro K hK; go_simp; refine hK _ ?_; clear hK K
            iterate 4 (refine Rc.rK rfl rfl ?_; intro K hK; apply Exists.intro; refine ⟨?_, ?_⟩; (focus (intro x hx;  go_simp; (first | (fail) | ((try go_bits); (try go_simp); (try rfl))))); go_simp; refine hK _ ?_; clear hK K)
            refine Rc.r_load rfl rfl _ _ rfl (.agg (bysA X2)) (fun x hx => HLD4.out x (Rc.undrew hx)) ?_; intro K hK; go_simp; refine hK _ ?_; clear hK K
            iterate 2 (refine Rc.rK rfl rfl ?_; intro K hK; apply Exists.intro; refine ⟨?_, ?_⟩; (focus (intro x hx;  go_simp; (first | (fail) | ((try go_bits); (try go_simp); (try rfl))))); go_simp; refine hK _ ?_; clear hK K)
            iterate 7 (refine Rc.rK rfl rfl ?_; intro K hK; apply Exists.intro; refine ⟨?_, ?_⟩; (focus (intro x hx; have c0x := Rc.cell_le hx hgp c0; have d0x := Rc.cell_le hx hgq d0; go_simp; (first | (fail) | ((try go_bits); (try go_simp); (try rfl))))); go_simp; refine hK _ ?_; clear hK K)
            refine Rc.r_load rfl rfl _ _ rfl (.agg (bysA a)) (fun x hx => past_ahead (Rp.row_le (Rc.undrew hx) HP5.out) HA.out) ?_; intro K hK; go_simp; refine hK _ ?_; clear hK K
            iterate 1 (refine Rc.rK rfl rfl ?_; intro K hK; apply Exists.intro; refine ⟨?_, ?_⟩; (focus (intro x hx;  go_simp; (first | (fail) | ((try go_bits); (try go_simp); (try rfl))))); go_simp; refine hK _ ?_; clear hK K)
            refine Rc.r_load rfl rfl _ _ rfl (.agg (bysA b)) (fun x hx => past_ahead (Rp.row_le (Rc.undrew hx) HQ5.out) HB.out) ?_; intro K hK; go_simp; refine hK _ ?_; clear hK K
            iterate 5 (refine Rc.rK rfl rfl ?_; intro K hK; apply Exists.intro; refine ⟨?_, ?_⟩; (focus (intro x hx; have c33x := Rc.cell_le hx hgp c33; have d33x := Rc.cell_le hx hgq d33; go_simp; (first | (fail) | ((try go_bits); (try go_simp); (try rfl))))); go_simp; refine hK _ ?_; clear hK K)
            refine Rc.fK rfl rfl rfl rfl ?_ ?_
            · intro x Fs hx hle hg K hK
              have ht := texts16_any q1 c1 V x (by rw [HVL.out]; exact HV5.out.below (Rc.undrew hx)) (by rw [HVL.out]; omega)
              rw [HVL.out] at ht
              have HTX := Lib.hid ht
              clear ht
              go_wp2_with fail
              refine HTX.out.mono ?_
              rintro e x' ⟨v, rfl, hown, hb⟩
              obtain ⟨q', c', rfl⟩ := Ow_form hown
              go_wp2_with fail
              exact hK ⟨q', c', undef⟩ x' hb (fun F y hF hy => Rd.of_ow (OwF.fresh hown hle hF hy).1)
            intro K hK; go_simp; refine hK _ ?_; clear hK K
            iterate 2 (refine Rc.rK rfl rfl ?_; intro K hK; apply Exists.intro; refine ⟨?_, ?_⟩; (focus (intro x hx; have c33x := Rc.cell_le hx hgp c33; have d33x := Rc.cell_le hx hgq d33; go_simp; (first | (fail) | ((try go_bits); (try go_simp); (try rfl))))); go_simp; refine hK _ ?_; clear hK K)
            refine Rc.fK rfl rfl rfl rfl ?_ ?_
            · intro x Fs hx hle hg K hK
              have ht := texts16_any q2 c2 N x (by rw [HNL.out]; exact HN5.out.below (Rc.undrew hx)) (by rw [HNL.out]; omega)
              rw [HNL.out] at ht
              have HTX := Lib.hid ht
              clear ht
              go_wp2_with fail
              refine HTX.out.mono ?_
              rintro e x' ⟨v, rfl, hown, hb⟩
              obtain ⟨q', c', rfl⟩ := Ow_form hown
              go_wp2_with fail
              exact hK ⟨q', c', undef⟩ x' hb (fun F y hF hy => Rd.of_ow (OwF.fresh hown hle hF hy).1)
            intro K hK; go_simp; refine hK _ ?_; clear hK K
            refine Rc.fK rfl rfl rfl rfl ?_ ?_
            · intro x Fs hx hle hg K hK
              have ht := same16_any (p 27).q (p 30).q (p 27).c (p 30).c V N x (by rw [HVL.out]; exact hg.1) (by rw [HNL.out]; exact hg.2.1)
              rw [HVL.out, HNL.out, HVN.out] at ht
              have HTX := Lib.hid ht
              clear ht hg
              go_wp2_with fail
              refine HTX.out.mono ?_
              rintro e x' ⟨rfl, hb⟩
              go_wp2_with fail
              exact hK Rc.dflt x' hb (fun _ _ _ _ => trivial)
            intro K hK; go_simp; refine hK _ ?_; clear hK K
            iterate 2 (refine Rc.rK rfl rfl ?_; intro K hK; apply Exists.intro; refine ⟨?_, ?_⟩; (focus (intro x hx;  go_simp; (first | (fail) | ((try go_bits); (try go_simp); (try rfl))))); go_simp; refine hK _ ?_; clear hK K)
            refine Rc.done fun x6 Fs6 hx hle hg => ?_
            have HB6 := Lib.hid (HB5.out.trans ((Rc.undrew hx).mono HB5.out.size))
            clear hx hle hg c0 d0 c33 d33
            go_wp2_with fail
            refine NoPanic.normal ?_
            go_wp2_with fail
            go_ret
            exact ⟨rfl, HB6.out⟩
end Ref
end Go.Proofs.YtmcjjionfmdioaaDoor

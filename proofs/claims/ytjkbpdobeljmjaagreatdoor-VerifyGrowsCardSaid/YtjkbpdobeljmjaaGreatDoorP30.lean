/- A part of the proof. Plain; no condition. -/
import Derived.Test.YtjkbpdobeljmjaaGreatDoorP29
/- super.Seal over no members: the walk. Conditions: the tables lie. -/
namespace Go.Proofs.YtjkbpdobeljmjaaGreatDoor
set_option linter.unusedVariables false
set_option linter.unusedSimpArgs false
open Go.RowKit Bits Mem Sha
namespace Gr
open Stn (PartAt info32r)
open Ref (RdL OwL All32 leafS treeS range_list info_zero leafS_length)
def entry (n : Nat) : List UInt8 := leafS (rootT n (sha [2]))
set_option maxRecDepth 100000 in
set_option maxHeartbeats 8000000 in
theorem seal_nil (ub base : Nat) (seed : List UInt8) (q1 q2 : Option Addr) (c1 c2 : Nat) (D : List (List UInt8)) (w : World) (hT : Tb base w) (h : SupAt w ub base seed q1 c1 q2 c2 D) (hD : D.length ≤ 900) :
    Calls Tryz.prog 14 #[.pointer (some ⟨ub, 0, none⟩), .slice none 0 0] w fun e w' => ∃ v p1 d1 p2 d2, e = .returned v ∧ SupAt w' ub base seed p1 d1 p2 d2 (D ++ [entry D.length]) ∧ Kp (Tn ub (.slice q1 D.length c1) (.slice q2 D.length c2)) w w' := by
  obtain ⟨ie, hie, hi2⟩ := Option.map_eq_some_iff.1 infoSg
  have hzs : ie.zero.map (·.cells.size) = some 97 := congrArg Prod.fst hi2
  have hsz : ie.size = 97 := congrArg (·.2.1) hi2
  have hby : ie.bytes = 104 := congrArg (·.2.2) hi2
  obtain ⟨zv, hz1, hz2⟩ := Option.map_eq_some_iff.1 hzs
  obtain ⟨n, hn⟩ : ∃ n, n = D.length := ⟨_, rfl⟩
  obtain ⟨Z, hZ⟩ : ∃ Z, Z = Tryz.zeroCells42 := ⟨_, rfl⟩
  have HZ := Lib.hid hZ.symm
  have hZs : Z.size = 97 := by rw [hZ]; exact zeroSg
  obtain ⟨R, hR⟩ : ∃ R, R = sha [2] := ⟨_, rfl⟩
  have hRl : R.length = 32 := by rw [hR]; exact sha_length _
  obtain ⟨T, hTT⟩ : ∃ T, T = rootT n R := ⟨_, rfl⟩
  have hTl : T.length = 41 := by rw [hTT]; exact rootT_length _ hRl
  obtain ⟨S0, hS0⟩ : ∃ S0, S0 = sgnA n R (List.replicate 64 0) := ⟨_, rfl⟩
  have hS0s : S0.size = 97 := by rw [hS0]; exact sgnA_size hRl rfl
  have hS0o : S0.all (·.oneCell') = true := by rw [hS0]; exact sgnA_one _ _ _
  have hS0n : S0[0]? = some (.int .i64 n) := by rw [hS0]; unfold sgnA; rw [Array.getElem?_append_left (by simp)]; rfl
  have hS0r : PartAt S0 1 (bysA R) := by rw [hS0]; exact sgn_root
  have hBU : Tryz.prog.built 42 [(0, .int .i64 n), (1, .agg (bysA R))] = some S0 := by rw [hS0]; exact sgn_built _ _ hRl
  obtain ⟨V1, hV1⟩ : ∃ V1, V1 = Value.slice q1 D.length c1 := ⟨_, rfl⟩
  obtain ⟨V2, hV2⟩ : ∃ V2, V2 = Value.slice q2 D.length c2 := ⟨_, rfl⟩
  obtain ⟨C, hC⟩ : ∃ C, C = supC seed (.pointer none) V1 V2 := ⟨_, rfl⟩
  have hsd := h.2.2.1
  have hCa := supC_at hsd (.pointer none) V1 V2
  have hCd := supC_seed (seed := seed) (.pointer none) V1 V2
  have hCset := (supC_set hsd (.pointer none) V1 V2 (.pointer none)).1
  rw [← hC] at hCa hCd hCset
  have hrow : w.heap[ub]? = some (.cells C 117 (0, 0)) := by rw [hC, hV1, hV2]; exact h.row
  have hubl := lt_of_heap hrow
  obtain ⟨w1, hw1⟩ : ∃ w1, w1 = w.alloc (.cells Z 42) := ⟨_, rfl⟩
  have hb1 : Below w.heap.size w w1 := by rw [hw1]; exact (Below.refl _ _).alloc (Nat.le_refl _) _
  have hr1 : w1.heap[ub]? = some (.cells C 117 (0, 0)) := Rp.row_le hb1 hrow
  have hz1r : w1.heap[w.heap.size]? = some (.cells Z 42 (0, 0)) := by rw [hw1]; exact heap_alloc_new w _
  have c32 : w1.cell? ⟨ub, 32, none⟩ = some (.pointer none) := (cell_of_row _ _ _ _ _ _ hr1).trans hCa.1
  have f32 : w1.frozen? ⟨ub, 32, none⟩ = false := frozen_of_row _ _ _ _ _ hr1
  obtain ⟨w2, hw2⟩ : ∃ w2, w2 = w1.setCell ⟨ub, 32, none⟩ (.pointer none) := ⟨_, rfl⟩
  have hk12 : Kp (fun k => k = ub) w1 w2 := by rw [hw2]; exact Kp.setCell _ _ _ _
  have hk2 : Kp (fun k => k = ub) w w2 := Kp.lower (Kp.of_below hb1) hk12 (fun k _ e => e)
  have hr2 : w2.heap[ub]? = some (.cells C 117 (0, 0)) := by rw [hw2, heap_setCell_same _ _ _ _ _ _ hr1, hCset]
  have hz2r : w2.heap[w.heap.size]? = some (.cells Z 42 (0, 0)) := (hk12.block _ (lt_of_heap hz1r) (by omega)).trans hz1r
  have d33 : w2.cell? ⟨ub, 33, none⟩ = some (.slice q1 n c1) := by rw [hn, ← hV1]; exact (cell_of_row _ _ _ _ _ _ hr2).trans hCa.2.1
  have d32 : w2.cell? ⟨ub, 32, none⟩ = some (.pointer none) := (cell_of_row _ _ _ _ _ _ hr2).trans hCa.1
  have hty := @SupAt.typed w ub base seed q1 q2 c1 c2 D h
  rw [← hV1, ← hV2] at hty
  have hbase : ∀ k, Tn ub V1 V2 k → base ≤ k := fun k hk => (hty hk).1
  have HT2 := Lib.hid (hT.kp hk2 (fun k e => hbase k (.inl e)))
  have hap1 : ∀ k, V1.ownBlock = some k → k ≠ ub := fun k hk e => by
    obtain ⟨xs, ho⟩ := h.2.1
    rw [← hV1] at ho
    obtain ⟨_, _, h2⟩ := ho.typedG hk
    exact ne_typedG h2 hrow (by decide) e
  have hap2 : ∀ k, V2.ownBlock = some k → k ≠ ub := fun k hk e => by
    have ho := h.1.2.2
    rw [← hV2] at ho
    obtain ⟨_, _, h2⟩ := ho.typedG hk
    exact ne_typedG h2 hrow (by decide) e
  have hap3 : ∀ k, V1.ownBlock = some k → ¬ V2.ownBlock = some k := fun k hk hk' => by
    obtain ⟨xs, ho⟩ := h.2.1
    have ho' := h.1.2.2
    rw [← hV1] at ho
    rw [← hV2] at ho'
    obtain ⟨_, _, h1⟩ := ho.typedG hk
    obtain ⟨_, _, h2⟩ := ho'.typedG hk'
    exact ne_typedG h1 h2 (by decide) rfl
  rw [hV1, ← hn] at hap1 hap3
  have HA1 := Lib.hid hap1
  have HA2 := Lib.hid hap2
  have HA3 := Lib.hid hap3
  have HK2 := Lib.hid hk2
  have HR2 := Lib.hid hr2
  have HZ2 := Lib.hid hz2r
  have HW1 := Lib.hid hw1
  have HW2 := Lib.hid hw2
  have HH := Lib.hid h
  have HV1 := Lib.hid hV1
  have HV2 := Lib.hid hV2
  have HC := Lib.hid hC
  have HCA := Lib.hid hCa
  have HCD := Lib.hid hCd
  have HBU := Lib.hid hBU
  have HRL := Lib.hid hRl
  have HRE := Lib.hid hR
  have HTE := Lib.hid hTT
  have HTL := Lib.hid hTl
  have HS0S := Lib.hid hS0s
  have HS0O := Lib.hid hS0o
  have HS0N := Lib.hid hS0n
  have HS0R := Lib.hid hS0r
  have HZS := Lib.hid hZs
  have HNE := Lib.hid hn
  have HIS0 := Lib.hid (infoSg1 hS0s)
  have HSD := Lib.hid hsd
  have HBA := Lib.hid hbase
  have hnI : (n : Int) ≤ 900 := by omega
  have hub2 := lt_of_heap hr2
  have hlen : ∀ x : World, Calls Tryz.prog 0 #[] x (fun _ _ => True) ∨ True := fun _ => .inr trivial
  rw [← hV1, ← hV2]
  clear hap1 hap2 hap3 hn hZ hR hRl hTT hTl hS0 hS0s hS0o hS0n hS0r hBU hV1 hV2 hC hCa hCd hCset hrow hw1 hb1 hr1 hz1r hw2 hk12 hk2 hr2 hz2r hty hbase h hT hZs hsd hlen
  go_enter Tryz.func14, Tryz.ntmps14
  go_upto_region 3 with fail
  rw [HZ.out, ← HW1.out]
  go_wp2_with fail
  refine (over_nil w1).mono ?_
  rintro e wx ⟨rfl, rfl⟩
  go_upto_region 4 with fail
  rw [← HW2.out]
  refine Rc.region (w2.heap.size) 12 [Rc.F 9 (fun _ => .agg (bysA R)) (fun _ _ _ => True), Rc.F 11 (fun p => .pointer (some ⟨p.c, 0, none⟩)) (fun p F y => (y.heap[p.c]? = some (.cells Z 42 (0, 0)) ∧ w2.heap.size ≤ p.c) ∧ F p.c)] [11] (by kernel_rfl) (Nat.le_refl _) (by kernel_rfl) ?_; intro p; simp only [List.take, List.drop]
  iterate 9 (refine Rc.rK rfl rfl ?_; intro K hK; apply Exists.intro; refine ⟨?_, ?_⟩; (focus (intro x hx; have e1 := Rc.cell_le hx hub2 d33; have e2 := Rc.cell_le hx hub2 d32; go_simp; (first | (fail) | ((try go_bits); (try go_simp); (try rfl))))); go_simp; refine hK _ ?_; clear hK K)
  refine Rc.fK rfl rfl rfl rfl ?_ ?_
  · intro x Fs hx hle hg K hK
    have hb := Rc.undrew hx
    go_wp2_with fail
    have := troot_nil (HT2.out.sha.below hb)
    rw [← HRE.out] at this
    refine this.mono ?_
    rintro e x' ⟨rfl, hb'⟩
    go_wp2_with fail
    exact hK Rc.dflt x' hb' (fun _ _ _ _ => trivial)
  intro K hK; go_simp; refine hK _ ?_; clear hK K
  refine Rc.r_build rfl rfl 42 _ rfl S0 (by simp only [List.map_toArray, List.map_cons, List.map_nil]; exact HBU.out) ?_
  intro K hK; go_simp; refine hK _ ?_; clear hK K
  refine Rc.fK rfl rfl rfl rfl ?_ ?_
  · intro x Fs hx hle hg K hK
    go_wp2_with fail
    rw [HZ.out]
    exact hK ⟨none, x.heap.size, undef⟩ _ ((Below.refl _ _).alloc (Nat.le_refl _) _) fun F y hF hy => ⟨⟨(hy.block _ (by simp) (.inr (hF _ (Nat.le_refl _) (by simp)))).trans (Rg.heap_alloc_at _ _ _ rfl), hle⟩, hF _ (Nat.le_refl _) (by simp)⟩
  intro K hK; go_simp; refine hK _ ?_; clear hK K
  refine Rc.done fun x Fs hx hle hg => ?_
  have hfact : (x.heap[(p 11).c]? = some (.cells Z 42 (0, 0)) ∧ w2.heap.size ≤ (p 11).c) ∧ _ := hg.1
  obtain ⟨b5, hb5⟩ : ∃ b5, b5 = (p 11).c := ⟨_, rfl⟩
  rw [← hb5] at hfact ⊢
  have HX5 := Lib.hid hfact.1.1
  have hb5l := hfact.1.2
  have HBX := Lib.hid (Rc.undrew hx)
  clear hx hle hg hb5 hfact
  go_wp2_with (refine Rg.store_row rfl 42 _ _ rfl b5 rfl 42 Z S0 rfl HX5.out HIS0.out (by rw [HZS.out, HS0S.out]) HS0O.out ?_)
  refine NoPanic.normal ?_
  obtain ⟨w4, hw4⟩ : ∃ w4, w4 = x.setRow b5 S0 := ⟨_, rfl⟩
  have hb24 : Below w2.heap.size w2 w4 := by rw [hw4]; exact Rg.below_setRow HBX.out hb5l _
  have hr5 : w4.heap[b5]? = some (.cells S0 42 (0, 0)) := by rw [hw4]; exact setRow_heap _ _ _ _ _ _ HX5.out
  have hr4 := Rp.row_le hb24 HR2.out
  have c0 : w4.cell? ⟨b5, 0, none⟩ = some (.int .i64 n) := (cell_of_row _ _ _ _ _ _ hr5).trans HS0N.out
  have HLR := Lib.hid (HS0R.out.load hr5 Tryz.underlying22 rfl (info32r R HRL.out))
  have HTX := Lib.hid (stextX n R HRL.out w4)
  rw [← HTE.out] at HTX
  have HT4 := Lib.hid (HT2.out.below (hb24.mono HT2.out.le))
  have HK4 : Hid (Kp (fun k => k = ub) w w4) := Lib.hid (Kp.lower HK2.out (Kp.of_below (S := fun _ => False) hb24) (fun _ _ h => h.elim))
  have HR4 := Lib.hid hr4
  have HR5 := Lib.hid hr5
  have HZ4 := Lib.hid (Rp.row_le hb24 HZ2.out)
  have HW4 := Lib.hid hw4
  rw [← hw4]
  clear hw4 hb24 hr5 hr4
  go_wp2_with (first | (refine l_loadP rfl _ _ rfl (.pointer (some ⟨b5, 1, none⟩)) rfl (.agg (bysA R)) HLR.out ?_))
  refine HTX.out.mono ?_
  rintro e w5 ⟨qt, ct, rfl, how, hb⟩
  have hqt : Ab.CellsAt w5 qt := fun a ha => by
    rcases how.2 with ⟨h1, _⟩ | ⟨g, cap, cur, fz, h1, _, hg, _⟩
    · cases h1
    · cases h1; cases ha; exact ⟨_, _, _, hg⟩
  have hT5 := HT4.out.below (hb.mono HT4.out.le)
  have hr5 := Rp.row_le hb HR5.out
  have hr4 := Rp.row_le hb HR4.out
  have hrt : Rd w5 1 (.slice qt T.length ct) T.length (bys T) := by rw [HTL.out]; exact Rd.of_ow how
  have hsg := Ab.sign_any hT5.wt HSD.out hrt hqt (by rw [HTL.out]; decide)
  rw [HTL.out] at hsg
  have HSG := Lib.hid hsg
  have HOW5 := Lib.hid how
  have HT5 := Lib.hid hT5
  have HB5 := Lib.hid hb
  have HR55 := Lib.hid hr5
  have HR54 := Lib.hid hr4
  have HZ5 := Lib.hid (Rp.row_le hb HZ4.out)
  have HK5 : Hid (Kp (fun k => k = ub) w w5) := Lib.hid (Kp.lower HK4.out (Kp.of_below (S := fun _ => False) hb) (fun _ _ h => h.elim))
  have HLS := Lib.hid (HCD.out.load hr4 Tryz.underlying22 rfl (info32r seed HSD.out))
  clear how hb hqt hT5 hr5 hr4 hrt hsg c0 HLR HTX
  go_wp2_with (first | (refine l_loadP rfl _ _ rfl (.pointer (some ⟨ub, 0, none⟩)) rfl (.agg (bysA seed)) HLS.out ?_))
  refine HSG.out.mono ?_
  rintro e w6 ⟨G, rfl, hG, hGo, hb⟩
  obtain ⟨S1, hS1⟩ : ∃ S1, S1 = (S0.toList.take 33 ++ G.toList ++ S0.toList.drop (33 + G.size)).toArray := ⟨_, rfl⟩
  have hS1s : S1.size = 97 := by rw [hS1]; simp [HS0S.out, hG]
  have hS1o : ∀ u ∈ S1.toList, u.oneCell' = true := fun u hu => by
    rw [hS1] at hu
    have h1 := Array.all_eq_true_iff_forall_mem.1 HS0O.out
    have h2 := Array.all_eq_true_iff_forall_mem.1 hGo
    simp only [List.mem_append] at hu
    rcases hu with (hu | hu) | hu
    · exact h1 u (by simpa using List.mem_of_mem_take hu)
    · exact h2 u (by simpa using hu)
    · exact h1 u (by simpa using List.mem_of_mem_drop hu)
  have HR65 := Lib.hid (Rp.row_le hb HR55.out)
  have HIG := Lib.hid (infoG hG)
  have HGS : Hid (33 + G.size ≤ S0.size) := Lib.hid (by rw [hG, HS0S.out]; decide)
  have HGO := Lib.hid hGo
  obtain ⟨w7, hw7⟩ : ∃ w7, w7 = w6.setRow b5 S1 := ⟨_, rfl⟩
  have HS1 : Hid ((S0.toList.take 33 ++ G.toList ++ S0.toList.drop (33 + G.size)).toArray = S1) := Lib.hid hS1.symm
  have hb5w : w.heap.size < b5 := Nat.lt_of_lt_of_le (lt_of_heap HZ2.out) hb5l
  have hub5 : ub ≠ b5 := by omega
  have hk7 : Kp (fun k => k = ub) w w7 := Kp.lower (Kp.lower HK5.out (Kp.of_below (S := fun _ => False) hb) (fun _ _ h => h.elim)) (by rw [hw7]; exact Kp.setRow _ _ _) (fun k hk e => by omega)
  have hr7 : w7.heap[b5]? = some (.cells S1 42 (0, 0)) := by rw [hw7]; exact setRow_heap _ _ _ _ _ _ HR65.out
  have hru7 : w7.heap[ub]? = some (.cells C 117 (0, 0)) := by rw [hw7]; exact (setRow_otherE _ hub5).trans (Rp.row_le hb HR54.out)
  have hz7 : w7.heap[w.heap.size]? = some (.cells Z 42 (0, 0)) := by rw [hw7]; exact (setRow_otherE _ (by omega)).trans (Rp.row_le hb HZ5.out)
  have g33 : w7.cell? ⟨ub, 33, none⟩ = some (.slice q1 n c1) := by
    rw [HNE.out, ← HV1.out]; exact (cell_of_row _ _ _ _ _ _ hru7).trans HCA.out.2.1
  obtain ⟨xs, ho1⟩ := HH.out.2.1
  rw [← HNE.out] at ho1
  have hown : Ow w7 base 42 97 (.slice q1 n c1) n xs := ho1.kpq (fun k hk => hk7.block k (ho1.lt k hk).2 (HA1.out k hk))
  have hnb5 : ∀ k, (Value.slice q1 n c1).ownBlock = some k → k ≠ b5 := fun k hk e => by have := (ho1.lt k hk).2; omega
  have hub7 := lt_of_heap hru7
  have hb57 := lt_of_heap hr7
  have hz77 := lt_of_heap hz7
  have hrt7 : Rd w7 1 (.slice qt T.length ct) T.length (bys T) := by
    have h1 : Rd w5 1 (.slice qt T.length ct) T.length (bys T) := by rw [HTL.out]; exact Rd.of_ow HOW5.out
    refine (h1.below hb).kpq (fun k hk => ?_)
    rw [hw7]
    have h2 := (HOW5.out.lt k (by rw [HTL.out] at hk; exact hk)).1
    have h3 := lt_of_heap HR5.out
    exact setRow_otherE _ (by omega)
  have hqt7 : ∀ k, (Value.slice qt 41 ct).ownBlock = some k → w.heap.size ≤ k := fun k hk => by
    have h2 := (HOW5.out.lt k hk).1
    have h3 := lt_of_heap HR5.out
    omega
  have HB1n : Hid (∀ k, (Value.slice q1 n c1).ownBlock = some k → k < w.heap.size) := Lib.hid (fun k hk => (ho1.lt k hk).2)
  have HOWN := Lib.hid hown
  have HNB := Lib.hid hnb5
  have HRT := Lib.hid hrt7
  have HQT := Lib.hid hqt7
  have HK7 := Lib.hid hk7
  have HR7 := Lib.hid hr7
  have HRU7 := Lib.hid hru7
  have HZ7 := Lib.hid hz7
  have HW7 := Lib.hid hw7
  have HT7 := Lib.hid (HT5.out.below ((hb.mono HT5.out.le).trans (show Below base w6 w7 by rw [hw7]; exact Rg.below_setRow (Below.refl _ _) (by have := HT2.out.le; omega) _)))
  have HBS : Hid (∀ x : World, (Instr.buildSlice 113 1 #[(0, .agg S1)]).run Tryz.prog x = .ok (.slice (some ⟨x.heap.size, 0, none⟩) 1 1) (x.alloc (.cells S1 42))) := Lib.hid (fun x => run_bs1 Tryz.underlying113 hie hz1 hsz (by decide) (by decide) S1 hS1s x)
  have HS1O := Lib.hid hS1o
  have HS1A : Hid (S1.all (·.oneCell') = true) := Lib.hid (Array.all_eq_true_iff_forall_mem.2 fun u hu => hS1o u (by simpa using hu))
  have HIS1 := Lib.hid (infoSg1 hS1s)
  have HS1S := Lib.hid hS1s
  have hcap := Rd_cap (Rd.of_ow hown)
  clear hb hG hGo hS1 hS1s hS1o hw7 hk7 hr7 hru7 hz7 ho1 hnb5 hrt7 hqt7 HSG HLS
  go_wp2_with (first | (refine Rg.store_part rfl 40 _ _ rfl b5 33 rfl 42 S0 G rfl HR65.out HIG.out HGS.out HGO.out ?_))
  rw [HS1.out, ← HW7.out]
  refine Rq.region (fun k => k < w7.heap.size ∧ ¬ ((Value.slice q1 n c1).ownBlock = some k)) 10 [⟨6, [], [], some (fun _ pj => .slice pj.q 1 1), fun _ pj _ y => Rd y 97 (.slice pj.q 1 1) 1 S1.toList, Rq.free⟩, ⟨7, [6], [], some (fun _ pj => .slice pj.q (n + 1) pj.c), fun _ pj _ y => Ow y base 42 97 (.slice pj.q (n + 1) pj.c) (n + 1) (xs ++ S1.toList) ∧ (∀ k, (Value.slice pj.q (n + 1) pj.c).ownBlock = some k → (Value.slice q1 n c1).ownBlock = some k ∨ w7.heap.size ≤ k), fun k => (Value.slice q1 n c1).ownBlock = some k⟩] [7] (by kernel_rfl) (Rq.own_pred (i := 7) (fun k hk => (hown.lt k hk).2) (by intro s hs; simp only [List.mem_cons, List.not_mem_nil, or_false] at hs; rcases hs with rfl | rfl <;> first | exact .inl rfl | exact .inr ⟨rfl, rfl⟩)) (by kernel_rfl) ?_; intro p; simp only [List.take, List.drop]
  iterate 5 (refine Rq.rK rfl rfl ?_; intro K hK; apply Exists.intro; refine ⟨?_, ?_⟩; (focus (intro x hx; have c0x : x.cell? ⟨ub, 33, none⟩ = some (.slice q1 n c1) := (cell_of_row x ub _ _ _ _ (hx.row (by exact ⟨hub7, fun e => HA1.out _ e rfl⟩) HRU7.out)).trans ((cell_of_row _ _ _ _ _ _ HRU7.out).symm.trans g33); go_simp; (first | (fail) | ((try go_bits); (try go_simp); (try rfl))))); go_simp; refine hK _ ?_; clear hK K)
  refine Rq.r_load rfl rfl _ _ rfl (.agg S1) (fun x hx => (PartAt.self _).load ((Rq.undrew hx).row (by exact ⟨hb57, fun e => HNB.out _ e rfl⟩) HR7.out) Tryz.underlying42 rfl HIS1.out) ?_; intro K hK; go_simp; refine hK _ ?_; clear hK K
  refine Rq.cK rfl rfl rfl ?_ ?_
  · intro x Fs hx ho hg K hK
    have hlit := Rd_lit x S1 42 97 1 (by rw [HS1S.out]) (by decide)
    refine l_bs1 rfl 113 _ rfl (.agg S1) rfl (HBS.out x) ?_
    go_wp2_with fail
    refine hK ⟨some ⟨x.heap.size, 0, none⟩, 1, undef⟩ _ (Rc.Eff.of_below ((Below.refl _ _).alloc (Nat.le_refl _) _) _) fun y hy => ?_
    exact hlit.kpq (fun k hk => by cases hk; exact hy.block _ (by simp) (.inr (.inr ⟨Nat.le_refl _, by simp⟩)))
  intro K hK; go_simp; refine hK _ ?_; clear hK K
  refine Rq.cK rfl rfl rfl ?_ ?_
  · intro x Fs hx ho hg K hK
    have hown2 : Ow x base 42 97 (.slice q1 n c1) n xs := hown.kpq (fun k hk => ho k hk)
    have hsrc : Rd x 97 (.slice (p 6).q 1 1) 1 S1.toList := hg.1
    have hsx : base ≤ x.heap.size := Nat.le_trans HT7.out.le hx.size
    refine app_ow3 rfl _ _ 113 113 rfl base 42 ie zv 97 104 Tryz.underlying113 hie hz1 hsz hby hz2 _ n _ rfl hown2 1 _ rfl (Rd.src Tryz.underlying113 hsrc HS1O.out) (by unfold maxLen; omega) (by omega) hsx ?_
    intro v3 w3 how3 hg3 hnew3
    obtain ⟨q3, c3, rfl⟩ := Ow_form how3
    have hg3 : x.grownBy w3 (Value.slice q1 n c1).ownBlock := hg3
    have hnew3 : ∀ k, (Value.slice q3 (n + 1) c3).ownBlock = some k → (Value.slice q1 n c1).ownBlock = some k ∨ x.heap.size ≤ k := hnew3
    go_wp2_with fail
    refine hK ⟨q3, c3, undef⟩ w3 ⟨hg3.os, hg3.tape, hg3.output, hg3.size, fun j hj hn => hg3.block j hj fun e => hn (.inr e.symm)⟩ fun y hy => ⟨how3.kpq fun k hk => hy.block k (how3.lt k hk).2 (.inr ?_), fun k hk => ?_⟩
    · rcases hnew3 k hk with h | h
      · exact .inl (.inr h)
      · exact .inr ⟨h, (how3.lt k hk).2⟩
    · rcases hnew3 k hk with h | h
      · exact .inl h
      · exact .inr (Nat.le_trans hx.size h)
  intro K hK; go_simp; refine hK _ ?_; clear hK K
  iterate 2 (refine Rq.rK rfl rfl ?_; intro K hK; apply Exists.intro; refine ⟨?_, ?_⟩; (focus (intro x hx;  go_simp; (first | (fail) | ((try go_bits); (try go_simp); (try rfl))))); go_simp; refine hK _ ?_; clear hK K)
  refine Rq.done fun y Fs hx hg => ?_
  have hfact : Ow y base 42 97 (.slice (p 7).q (n + 1) (p 7).c) (n + 1) (xs ++ S1.toList) ∧ (∀ k, (Value.slice (p 7).q (n + 1) (p 7).c).ownBlock = some k → (Value.slice q1 n c1).ownBlock = some k ∨ w7.heap.size ≤ k) := hg.1
  obtain ⟨q8, hq8⟩ : ∃ q8, q8 = (p 7).q := ⟨_, rfl⟩
  obtain ⟨c8, hc8⟩ : ∃ c8, c8 = (p 7).c := ⟨_, rfl⟩
  rw [← hq8, ← hc8] at hfact ⊢
  have HXS : Hid (Rq.Same (fun k => k < w7.heap.size ∧ ¬ ((Value.slice q1 n c1).ownBlock = some k)) w7 y) := Lib.hid (Rq.undrew hx)
  have hyr : y.heap[ub]? = some (.cells C 117 (0, 0)) := HXS.out.row (by exact ⟨hub7, fun e => HA1.out _ e rfl⟩) HRU7.out
  have cy : y.cell? ⟨ub, 33, none⟩ = some (.slice q1 n c1) := (cell_of_row y ub _ _ _ _ hyr).trans ((cell_of_row _ _ _ _ _ _ HRU7.out).symm.trans g33)
  have fy : y.frozen? ⟨ub, 33, none⟩ = false := frozen_of_row _ _ _ _ _ hyr
  have HF := Lib.hid hfact
  have HYR := Lib.hid hyr
  obtain ⟨w8, hw8⟩ : ∃ w8, w8 = y.setCell ⟨ub, 33, none⟩ (.slice q8 (n + 1) c8) := ⟨_, rfl⟩
  have hgr := grown_setCell y ub 33 (.slice q8 (n + 1) c8)
  rw [← hw8] at hgr
  obtain ⟨C8, hC8⟩ : ∃ C8, C8 = supC seed (.pointer none) (.slice q8 (n + 1) c8) V2 := ⟨_, rfl⟩
  have hr8 : w8.heap[ub]? = some (.cells C8 117 (0, 0)) := by
    rw [hw8, heap_setCell_same _ _ _ _ _ _ hyr, HC.out, (supC_set HSD.out (.pointer none) V1 V2 (.slice q8 (n + 1) c8)).2.1, hC8]
  have hk78 : Kp (fun k => k = ub ∨ (Value.slice q1 n c1).ownBlock = some k) w7 w8 := ⟨hgr.os.trans HXS.out.os, hgr.tape.trans HXS.out.tape, hgr.output.trans HXS.out.output, Nat.le_trans HXS.out.size hgr.size, fun k hk hn => (hgr.block k (Nat.lt_of_lt_of_le hk HXS.out.size) (fun e => hn (.inl (Option.some.inj e)))).trans (HXS.out.block k ⟨hk, fun e => hn (.inr e)⟩)⟩
  have hk8 : Kp (fun k => k = ub ∨ (Value.slice q1 n c1).ownBlock = some k) w w8 := Kp.lower (HK7.out.mono' (fun k e => .inl e)) hk78 (fun _ _ e => e)
  have hlg := HH.out.1
  have ho2 := hlg.2.2
  have hv2 : V2 = .slice q2 D.length c2 := HV2.out
  have hlog8 : Rs.LogAt w8 ub 34 C8 117 base q2 c2 D := ⟨⟨hr8, by rw [hC8, ← hv2]; exact (supC_at HSD.out _ _ _).2.2, by decide⟩, hlg.2.1, ho2.kpq (fun k hk => hk8.block k (ho2.lt k hk).2 (fun e => by
    rcases e with e | e
    · exact HA2.out k (by rw [hv2]; exact hk) e
    · exact HA3.out k e (by rw [hv2]; exact hk)))⟩
  have hq2n : ∀ k, (Value.slice q2 D.length c2).ownBlock = some k → k < w.heap.size := fun k hk => (ho2.lt k hk).2
  have hT8 := HT7.out.kp hk78 (fun k hk => by
    rcases hk with rfl | hk
    · exact HH.out.2.2.2
    · exact (hown.lt k hk).1)
  have hrt8 : Rd w8 1 (.slice qt T.length ct) T.length (bys T) := HRT.out.kpq (fun k hk => hk78.block k (HRT.out.ltB k hk) (fun e => by
    have h1 := HQT.out k (by rw [HTL.out] at hk; exact hk)
    rcases e with e | e
    · omega
    · have := (hown.lt k e).2
      have h2 := HB1n.out k e
      omega))
  have hadd := Rs.logadd_any ub 34 base C8 117 q2 c2 D qt ct T w8 hT8.sha hlog8 hT8.le hT8.lo (by have := HNE.out; omega) hrt8 (by
    by_cases hn : (Value.slice qt T.length ct).ownBlock = none
    · exact .inl hn
    · refine .inr fun e => ?_
      obtain ⟨k, hk⟩ := Option.ne_none_iff_exists'.1 hn
      have h1 := HQT.out k (by rw [HTL.out] at hk; exact hk)
      have h2 := hq2n k (e ▸ hk)
      omega) (by rw [HTL.out]; decide)
  rw [HTL.out] at hadd
  have HADD := Lib.hid hadd
  have hr85 : w8.heap[b5]? = some (.cells S1 42 (0, 0)) := (hk78.block _ hb57 (fun e => by
    rcases e with e | e
    · exact hub5 e.symm
    · exact HNB.out _ e rfl)).trans HR7.out
  have hz8 : w8.heap[w.heap.size]? = some (.cells Z 42 (0, 0)) := (hk78.block _ hz77 (fun e => by
    rcases e with e | e
    · omega
    · have := HB1n.out _ e
      omega)).trans HZ7.out
  have hown8 : Ow w8 base 42 97 (.slice q8 (n + 1) c8) (n + 1) (xs ++ S1.toList) := HF.out.1.kpq (fun k hk => hgr.block k (HF.out.1.lt k hk).2 (fun e => by
    rcases HF.out.2 k hk with h | h
    · exact HA1.out k h (Option.some.inj e)
    · have := Option.some.inj e
      omega))
  have HR85 := Lib.hid hr85
  have HZ8 := Lib.hid hz8
  have HO8 := Lib.hid hown8
  have HK8 := Lib.hid hk8
  have HC8 := Lib.hid hC8
  have HT8 := Lib.hid hT8
  have HW8 := Lib.hid hw8
  have HQ2N := Lib.hid hq2n
  clear hg hx hfact hq8 hc8 hyr g33 hgr hr8 hk78 hk8 hlg ho2 hv2 hlog8 hT8 hrt8 hadd hr85 hz8 hown8 hC8 hw8 hq2n
  go_upto_region 8 with fail
  refine NoPanic.normal ?_
  rw [← HW8.out]
  go_wp2_with fail
  refine HADD.out.mono ?_
  rintro e w9 ⟨q9, c9, rfl, hl9, hk9, hg9⟩
  have hz8l := lt_of_heap HZ8.out
  have hr95 : w9.heap[b5]? = some (.cells S1 42 (0, 0)) := (hk9.block _ (lt_of_heap HR85.out) (fun e => by
    rcases e with e | e
    · exact hub5 e.symm
    · have := HQ2N.out _ e
      omega)).trans HR85.out
  have hz9 : w9.heap[w.heap.size]? = some (.cells Z 42 (0, 0)) := (hk9.block _ hz8l (fun e => by
    rcases e with e | e
    · omega
    · have := HQ2N.out _ e
      omega)).trans HZ8.out
  have hown9 : Ow w9 base 42 97 (.slice q8 (n + 1) c8) (n + 1) (xs ++ S1.toList) := HO8.out.kpq (fun k hk => hk9.block k (HO8.out.lt k hk).2 (fun e => by
    rcases HF.out.2 k hk with h | h
    · rcases e with e | e
      · exact HA1.out k h e
      · exact HA3.out k h (by rw [HV2.out]; exact e)
    · rcases e with e | e
      · omega
      · have := HQ2N.out _ e
        omega))
  have HZ9 := Lib.hid hz9
  have HLD9 := Lib.hid ((PartAt.self S1).load hr95 Tryz.underlying42 rfl HIS1.out)
  have HO9 := Lib.hid hown9
  have HL9 := Lib.hid hl9
  have HK9 := Lib.hid hk9
  have HG9 := Lib.hid hg9
  clear hr95 hz9 hown9 hl9 hk9 hg9 HADD
  go_wp2_with (first | (refine l_loadP rfl _ _ rfl (.pointer (some ⟨b5, 0, none⟩)) rfl (.agg S1) HLD9.out ?_) | (refine Rg.store_row rfl 42 _ _ rfl w.heap.size rfl 42 Z S1 rfl HZ9.out HIS1.out (by rw [HZS.out, HS1S.out]) HS1A.out ?_))
  refine bodyPost_ret (v := .agg S1) (results_cell_row (P := Tryz.prog) rfl _ _ w.heap.size 42 S1 (0, 0) _ rfl (setRow_heap _ _ _ _ 42 _ HZ9.out) Tryz.underlying42 rfl HIS1.out) rfl ?_
  have hE : entry D.length = leafS T := by unfold entry; rw [HTE.out, HRE.out, HNE.out]
  have hln : (D ++ [leafS T]).length = n + 1 := by rw [List.length_append, HNE.out]; rfl
  have hkz := Kp.setRow w9 w.heap.size S1
  have ho9 : Ow w9 base 22 32 (.slice q9 (D ++ [leafS T]).length c9) (D ++ [leafS T]).length (bys (D ++ [leafS T]).flatten) := HL9.out.2.2
  refine ⟨.agg S1, q8, c8, q9, c9, rfl, ?_, ?_⟩
  · rw [hE]
    refine ⟨⟨⟨?_, ?_, HL9.out.1.2.2⟩, HL9.out.2.1, ho9.kpq fun k hk => hkz.block k (ho9.lt k hk).2 fun e => ?_⟩, ⟨xs ++ S1.toList, ?_⟩, HSD.out, HH.out.2.2.2⟩
    · rw [hln]
      refine (hkz.block ub (lt_of_heap HL9.out.1.1) (by omega)).trans (HL9.out.1.1.trans ?_)
      rw [HC8.out, (supC_set HSD.out _ _ _ _).2.2, hln]
    · exact (supC_at HSD.out _ _ _).2.2
    · rcases HG9.out k hk with h | h
      · have := HQ2N.out k h
        omega
      · omega
    · rw [hln]
      exact HO9.out.kpq fun k hk => hkz.block k (HO9.out.lt k hk).2 fun e => by
        rcases HF.out.2 k hk with h | h
        · have := HB1n.out k h
          omega
        · omega
  · have h1 : Kp (Tn ub V1 V2) w w8 := HK8.out.mono' fun k e => by
      rcases e with e | e
      · exact .inl e
      · exact .inr (.inl (by rw [HV1.out, ← HNE.out]; exact e))
    have h2 := Kp.lower h1 HK9.out (fun k _ e => by
      rcases e with e | e
      · exact .inl e
      · exact .inr (.inr (by rw [HV2.out]; exact e)))
    exact Kp.lower h2 hkz (fun k hk e => by omega)
end Gr
end Go.Proofs.YtjkbpdobeljmjaaGreatDoor


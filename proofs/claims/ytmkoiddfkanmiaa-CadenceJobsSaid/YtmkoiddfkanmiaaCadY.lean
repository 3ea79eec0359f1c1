/- The walk of CadenceJobs. -/
import Derived.Test.YtmkoiddfkanmiaaCadX
namespace Go.Proofs.Ytmkoiddfkanmiaa
open Go.RowKit Bits Mem Sha
namespace Cad
theorem infoJobS (x : Job) : (Try.prog.info? 38).map (·.size) = some (jobA x).toList.length := by
  show _ = some 4
  kernel_rfl
/-- One of a row of jobs, loaded. -/
theorem job_load {w : World} {b off c : Nat} {J : List Job} {k : Nat} {x : Job} (h : Rd w 4 (.slice (some ⟨b, off, none⟩) J.length c) J.length (jobs J)) (hx : J[k]? = some x) :
    (Instr.loadAt 38 (.pointer (some ⟨b, off + k * 4, none⟩))).run Try.prog w = .ok (.agg (jobA x)) w := by
  obtain ⟨b', off', he, _, _, _, hc⟩ := Rd_lt h (by have := (List.getElem?_eq_some_iff.1 hx).1; omega)
  cases he
  have := run_loadAt_mid (P := Try.prog) w b (off + k * 4) 38 (jobA x).toList _ (fun j u hu => by
    have hj := (List.getElem?_eq_some_iff.1 hu).1
    have hj4 : j < 4 := hj
    rw [Nat.add_assoc]
    exact hc _ u (by rw [jobs_get J k x hx j hj4]; exact hu)) Try.underlying38 rfl (infoJobS x)
  simpa using this
theorem mod4cad (n : Int) : ∃ m : Nat, m < 4 ∧ wrap64 ((IntKind.u64.wrap n).tmod 4) = (m : Int) := by
  have h1 : 0 ≤ IntKind.u64.wrap n := by rw [IntKind.wrap_u64]; omega
  have h2 : (IntKind.u64.wrap n).tmod 4 = IntKind.u64.wrap n % 4 := Int.tmod_eq_emod_of_nonneg h1
  refine ⟨(IntKind.u64.wrap n % 4).toNat, by omega, ?_⟩
  rw [h2]
  unfold wrap64
  omega
set_option maxRecDepth 100000 in
set_option maxHeartbeats 8000000 in
theorem jobs_any (n0 : Int) (q : Option Addr) (c : Nat) (J : List Job) (w : World) (hJ : Rd w 4 (.slice q J.length c) J.length (jobs J)) (hok : ∀ j ∈ J, j.ok) (hn : n0 ≤ 9223372036854775807) :
    Calls Try.prog 5 #[.int .i64 n0, .slice q J.length c] w fun e w' => e = .returned (.bool true) ∧ Below w.heap.size w w' := by
  have HJ := Lib.hid hJ
  have HOK := Lib.hid hok
  clear hJ hok
  go_enter Try.func5, Try.ntmps5
  go_wp2_with fail
  refine (none_nil w).mono ?_
  rintro e w1 ⟨rfl, rfl⟩
  go_wp2_with fail
  refine (tick_nil w1).mono ?_
  rintro e w1' ⟨rfl, rfl⟩
  go_wp2_with fail
  refine (none_nil _).mono ?_
  rintro e w2 ⟨rfl, rfl⟩
  go_wp2_with fail
  refine (age_nil [] _).mono ?_
  rintro e w2' ⟨rfl, rfl⟩
  go_wp2_with fail
  refine (none_nil _).mono ?_
  rintro e w3 ⟨rfl, rfl⟩
  go_wp2_with fail
  refine (next_nil [] _).mono ?_
  rintro e w3' ⟨rfl, rfl⟩
  go_wp2_with fail
  refine (beatsCad_any _).mono ?_
  rintro e w4 ⟨rfl, hb4⟩
  have HB4 := Lib.hid hb4
  clear hb4
  go_wp2_with fail
  refine (none_nil _).mono ?_
  rintro e w5 ⟨rfl, rfl⟩
  go_wp2_with fail
  refine (now_nil _).mono ?_
  rintro e w5' ⟨rfl, rfl⟩
  go_wp2_with fail
  refine (none_nil _).mono ?_
  rintro e w6 ⟨rfl, rfl⟩
  go_wp2_with fail
  refine (add_none [] 1 0 _).mono ?_
  rintro e w6' ⟨rfl, rfl⟩
  go_wp2_with fail
  refine (none_nil _).mono ?_
  rintro e w7 ⟨rfl, rfl⟩
  go_wp2_with fail
  refine (rem_nil [] _).mono ?_
  rintro e w7' ⟨rfl, rfl⟩
  go_wp2_with fail
  refine (none_nil _).mono ?_
  rintro e w8 ⟨rfl, rfl⟩
  go_wp2_with fail
  refine (ids_nil _).mono ?_
  rintro e w8' ⟨rfl, rfl⟩
  by_cases hneg : n0 < 0
  · go_wp2_with fail
    refine (newCad_neg n0 hneg _).mono ?_
    rintro e w9 ⟨rfl, rfl⟩
    go_wp2_with fail
    go_ret
    exact ⟨rfl, HB4.out⟩
  · obtain ⟨n, rfl⟩ : ∃ n : Nat, n0 = (n : Int) := ⟨n0.toNat, by omega⟩
    clear hneg
    obtain ⟨wa, hwa⟩ : ∃ wa, wa = w8'.alloc (.cells #[.int .i64 n, .slice none 0 0] 53) := ⟨_, rfl⟩
    obtain ⟨wb, hwb⟩ : ∃ wb, wb = wa.alloc (.cells #[.int .i64 n, .slice none 0 0] 46) := ⟨_, rfl⟩
    obtain ⟨S, hS⟩ : ∃ S, S = w8'.heap.size := ⟨_, rfl⟩
    have hsa : wa.heap.size = S + 1 := by rw [hwa, hS]; exact Array.size_push _
    have hba : Below w8'.heap.size w8' wa := by rw [hwa]; exact (Below.refl _ _).alloc (Nat.le_refl _) _
    have hbb : Below wa.heap.size wa wb := by rw [hwb]; exact (Below.refl _ _).alloc (Nat.le_refl _) _
    have hra : wa.heap[S]? = some (.cells #[.int .i64 n, .slice none 0 0] 53 (0, 0)) := by rw [hwa, hS]; exact heap_alloc_new w8' _
    have HPB : Hid (Pair w3' wb S n n none 0 [] none 0 []) := Lib.hid ⟨⟨(hbb.block S (by omega)).trans hra, by omega, Ow.nil _ _ _ _⟩, ⟨by rw [hwb, ← hsa]; exact heap_alloc_new wa _, by omega, Ow.nil _ _ _ _⟩, by rw [hS]; exact HB4.out.size, HB4.out.trans ((hba.trans (hbb.mono hba.size)).mono HB4.out.size)⟩
    have HWA := Lib.hid hwa
    have HWB := Lib.hid hwb
    have HSE := Lib.hid hS
    have HSA := Lib.hid hsa
    clear hwa hwb hS hsa hba hbb hra
    go_wp2_with fail
    refine (newCad_any n w8').mono ?_
    rintro e w9 ⟨rfl, hw⟩
    obtain rfl : w9 = wa := hw.trans HWA.out.symm
    rw [← HSE.out]
    clear hw
    go_wp2_with fail
    rw [← HWB.out, HSA.out]
    have hnb : (0 : Int) ≤ (n : Int) := by omega
    go_loopw [13] (fun iv wr => ∃ (i : Nat) (now : Int) (qa : Option Addr) (ca : Nat) (qd : Option Addr) (cd : Nat) (L : List One), i ≤ 40 ∧ iv = .int .i64 i ∧ L.length ≤ i ∧ 0 ≤ now ∧ now ≤ 9223372036854775807 ∧ Hid (Pair w3' wr S now now qa ca L qd cd L) ∧ Hid (Good L)) (fun iv _ => 40 - (intOf iv).toNat)
    case atStart => exact ⟨0, n, none, 0, none, 0, [], by decide, rfl, by decide, hnb, hn, HPB, Lib.hid Good.nil⟩
    case round =>
      clear HPB HWA HWB HSE HSA hnb
      obtain ⟨i, now, qa, ca, qd, cd, L, hi, rfl, hll, hn0, hn1, HP, HG⟩ := hrel
      by_cases hj : i < J.length
      · have hjI : (i : Int) < (J.length : Int) := by omega
        by_cases hlt : i < 40
        · have hltI : (i : Int) < 40 := by omega
          obtain ⟨x, hx⟩ : ∃ x, J[i]? = some x := ⟨_, List.getElem?_eq_getElem hj⟩
          have HRJ := Lib.hid (HJ.out.below HP.out.kept)
          obtain ⟨b, off, rfl, hb, _, _, _⟩ := Rd_lt HRJ.out (by omega)
          have HXO := Lib.hid (HOK.out x (List.mem_of_getElem? hx))
          obtain ⟨xw, xi, xp, xa⟩ := x
          have hld := job_load HRJ.out hx
          have HLD : Hid ((Instr.loadAt 38 (.pointer (some ⟨b, off + i * 4, none⟩))).run Try.prog wr = .ok (.agg #[.int .i64 xw, .string ⟨xi.toArray⟩, .int .i64 xp, .int .i64 xa]) wr) := Lib.hid hld
          obtain ⟨wl, hwl⟩ : ∃ wl, wl = wr.alloc (.cells #[.int .i64 xw, .string ⟨xi.toArray⟩, .int .i64 xp, .int .i64 xa] 38) := ⟨_, rfl⟩
          obtain ⟨v, hv⟩ : ∃ v, v = wr.heap.size := ⟨_, rfl⟩
          have HVL : Hid (VarAt wl v ⟨xw, xi, xp, xa⟩) := Lib.hid (by rw [hwl, hv]; exact heap_alloc_new wr _)
          have HPL : Hid (Pair w3' wl S now now qa ca L qd cd L) := Lib.hid (HP.out.below (by rw [hwl]; exact (Below.refl _ _).alloc (Nat.le_refl _) _))
          obtain ⟨m, hm, em⟩ := mod4cad xw
          have HWL := Lib.hid hwl
          have HVE := Lib.hid hv
          have hcase : m = 0 ∨ m = 1 ∨ m = 2 ∨ m = 3 := by omega
          clear hx hld hwl hv hm
          rcases hcase with rfl | rfl | rfl | rfl
          · go_wp2_with (refine l_load rfl _ _ rfl _ HLD.out ?_)
            rw [← HWL.out, ← HVE.out]
            as_aux_lemma =>
              refine (next_any S (S + 2) qa ca (now) L xi wl HPL.out.a (by omega) HG.out (by omega) (by omega)).mono ?_
              rintro e wn ⟨rfl, hbn⟩
              obtain ⟨N, hN⟩ : ∃ N, N = (nextD L (now) xi).1 := ⟨_, rfl⟩
              obtain ⟨E, hE⟩ : ∃ E, E = (nextD L (now) xi).2 := ⟨_, rfl⟩
              rw [← hN, ← hE]
              have HPn := Lib.hid (HPL.out.below hbn)
              have HVn := Lib.hid (HVL.out.below hbn)
              obtain ⟨vc0, vc1, vc2, vc3⟩ := HVn.out.cells
              have HN := Lib.hid hN
              have HE := Lib.hid hE
              clear hbn hN hE
              go_wp2_with fail
              refine (docnext_any (S + 1) (S + 2) qd cd (now) L xi wn HPn.out.d (by omega) HG.out (by omega) (by omega)).mono ?_
              rintro e wm ⟨rfl, hbm⟩
              rw [← HN.out, ← HE.out]
              have HPm := Lib.hid (HPn.out.below hbm)
              obtain ⟨dc0, dc1, _, _⟩ := HPm.out.d.cells
              have hsd := (Array.getElem?_eq_some_iff.1 HPm.out.d.1).1
              clear hbm vc0 vc1 vc2 vc3
              go_wp2_with fail
              refine Rc.region (wm.heap.size) 17 [Rc.F 10 (fun _ => .int .i64 (now)) (fun _ _ _ => True)] [] (by kernel_rfl) (Nat.le_refl _) (by kernel_rfl) ?_; intro p; simp only [List.take, List.drop]
              iterate 10 (refine Rc.rK rfl rfl ?_; intro K hK; apply Exists.intro; refine ⟨?_, ?_⟩; (focus (intro x hx;  go_simp; (first | (fail) | ((try go_bits); (try go_simp); (try rfl))))); go_simp; refine hK _ ?_; clear hK K)
              refine Rc.fK rfl rfl rfl rfl ?_ ?_
              · intro x Fs hx hle hg K hK
                have hsx := HPm.out.a.below (Rc.undrew hx)
                go_wp2_with fail
                refine (now_any S (S + 2) qa ca (now) L x hsx).mono ?_
                rintro e x' ⟨rfl, rfl⟩
                go_wp2_with fail
                exact hK Rc.dflt _ (Below.refl _ _) (fun _ _ _ _ => trivial)
              intro K hK; go_simp; refine hK _ ?_; clear hK K
              iterate 6 (refine Rc.rK rfl rfl ?_; intro K hK; apply Exists.intro; refine ⟨?_, ?_⟩; (focus (intro x hx; have e0 := Rc.cell_le hx hsd dc0; go_simp; (first | (fail) | ((try go_bits); (try go_simp); (try rfl))))); go_simp; refine hK _ ?_; clear hK K)
              refine Rc.done fun wq Fs hx hle hg => ?_
              have HPq := Lib.hid (HPm.out.below (Rc.undrew hx))
              clear hx hle hg dc0 dc1 hsd
              go_wp2_with fail
              refine NoPanic.normal ?_
              go_wp2_with fail
              refine (ids_any S (S + 2) qa ca (now) L wq HPq.out.a (by omega)).mono ?_
              rintro e wi ⟨qo, co, rfl, hri, hbi⟩
              have HPi := Lib.hid (HPq.out.below hbi)
              have HRI := Lib.hid hri
              obtain ⟨dc0, dc1, _, _⟩ := HPi.out.d.cells
              have hri0 := hri.1
              clear hri hbi
              go_wp2_with fail
              go_loopw [24] (fun kv wr2 => ∃ k : Nat, k ≤ List.length L ∧ kv = .int .i64 k ∧ Hid (Below wi.heap.size wi wr2)) (fun kv _ => List.length L - (intOf kv).toNat)
              case atStart => exact ⟨0, Nat.zero_le _, rfl, Lib.hid (Below.refl _ _)⟩
              case round =>
                obtain ⟨k, hk, rfl, HB2⟩ := hrel
                clear dc0 dc1
                by_cases hkl : k < List.length L
                · have hkI : (k : Int) < (List.length L : Int) := by omega
                  obtain ⟨y, hy⟩ : ∃ y, (L)[k]? = some y := ⟨_, List.getElem?_eq_getElem hkl⟩
                  have HPr := Lib.hid (HPi.out.below HB2.out)
                  obtain ⟨b2, o2, rfl, hb2, _, _, hc2⟩ := Rd_lt (HRI.out.below HB2.out) (by omega)
                  have hck := hc2 k _ (by unfold strsC; rw [List.getElem?_map, List.getElem?_map, hy]; rfl)
                  have HY := Lib.hid hy
                  obtain ⟨yi, yp, ya⟩ := y
                  have hck : wr.cell? ⟨b2, o2 + k, none⟩ = some (.string ⟨yi.toArray⟩) := hck
                  clear hc2 hy
                  go_wp2_with fail
                  refine (age_held S (S + 2) qa ca (now) L wr HPr.out.a (by omega) HG.out.srt k ⟨yi, yp, ya⟩ HY.out).mono ?_
                  rintro e wg ⟨rfl, hbg⟩
                  have HPg := Lib.hid (HPr.out.below hbg)
                  have HB3 := Lib.hid (HB2.out.trans (hbg.mono HB2.out.size))
                  have hcg := Below.cell hbg (p := ⟨b2, o2 + k, none⟩) hb2 |>.trans hck
                  have hb3 : b2 < wg.heap.size := Nat.lt_of_lt_of_le hb2 hbg.size
                  obtain ⟨g, rfl⟩ := HPg.out.d.2.2.some_of_lt (by omega)
                  obtain ⟨r0, r1, r2, _, _⟩ := row_cellsE HPg.out.d.2.2 rfl HY.out
                  obtain ⟨dc0, dc1, _, _⟩ := HPg.out.d.cells
                  have hsd := (Array.getElem?_eq_some_iff.1 HPg.out.d.1).1
                  have hgl := (HPg.out.d.2.2.lt g rfl).2
                  have r0 : wg.cell? ⟨g, k * 3, none⟩ = some (.string ⟨yi.toArray⟩) := r0
                  have r2 : wg.cell? ⟨g, k * 3 + 2, none⟩ = some (.int .i64 ya) := r2
                  clear hbg hck
                  go_wp2_with fail
                  refine Rc.region (wg.heap.size) 29 [] [] (by kernel_rfl) (Nat.le_refl _) (by kernel_rfl) ?_; intro p; simp only [List.take, List.drop]
                  iterate 29 (refine Rc.rK rfl rfl ?_; intro K hK; apply Exists.intro; refine ⟨?_, ?_⟩; (focus (intro x hx; have e0 := Rc.cell_le hx hsd dc1; have e1 := Rc.cell_le hx hb3 hcg; have e2 := Rc.cell_le hx hgl r0; have e3 := Rc.cell_le hx hgl r2; go_simp; (first | (fail) | ((try go_bits); (try go_simp); (try rfl))))); go_simp; refine hK _ ?_; clear hK K)
                  refine Rc.done fun wz Fs hx hle hg => ?_
                  have HB4z := Lib.hid (HB3.out.trans ((Rc.undrew hx).mono HB3.out.size))
                  clear hx hle hg dc0 dc1 r0 r2 hcg
                  go_wp2_with fail
                  refine NoPanic.normal ?_
                  go_wp2_with fail
                  exact ⟨⟨k + 1, by omega, by go_num, HB4z⟩, by simp [intOf]; omega⟩
                · have hkI : ¬ (k : Int) < (List.length L : Int) := by omega
                  have HPr := Lib.hid (HPi.out.below HB2.out)
                  go_wp2_with fail
                  exact ⟨⟨i + 1, now, qa, ca, qd, cd, L, by omega, by go_num, by omega, by omega, by omega, HPr, HG⟩, by simp [intOf]; omega⟩
          · go_wp2_with (refine l_load rfl _ _ rfl _ HLD.out ?_)
            rw [← HWL.out, ← HVE.out]
            obtain ⟨er, her⟩ : ∃ er, er = (addD L xi xp xa).1 := ⟨_, rfl⟩
            obtain ⟨L1, hL1⟩ : ∃ L1, L1 = (addD L xi xp xa).2 := ⟨_, rfl⟩
            have HER := Lib.hid her
            have HL1 := Lib.hid hL1
            have hvp : v < wl.heap.size ∧ ¬ mineA S qa L.length ca v ∧ ¬ mineD S qd L.length cd v := ⟨HVL.out.lt, HVL.out.not_A HPL.out, HVL.out.not_D HPL.out⟩
            have HVP := Lib.hid hvp
            clear her hL1 hvp
            refine Rq.region (fun k => k < wl.heap.size ∧ ¬ mineA S qa L.length ca k ∧ ¬ mineD S qd L.length cd k) 17 [Rq.S 7 [] [] (mineA S qa L.length ca) (fun _ => .int .i64 er) (fun p _ y => SchedAt y S (S + 2) p.q p.c now L1), Rq.S 15 [] [] (mineD S qd L.length cd) (fun _ => .int .i64 er) (fun p _ y => DocAt y (S + 1) (S + 2) p.q p.c now L1)] [7, 15] (by kernel_rfl) (own_pair (i1 := 7) (i2 := 15) (fun k hk => (HPL.out.ltA k hk).2) (fun k hk => (HPL.out.ltD k hk).2) HPL.out.apart (by intro s hs; simp only [List.mem_cons, List.not_mem_nil, or_false] at hs; rcases hs with rfl | rfl; exact .inr (.inl ⟨rfl, rfl⟩); exact .inr (.inr ⟨rfl, rfl⟩)) (by decide)) (by kernel_rfl) ?_; intro p; simp only [List.take, List.drop]
            iterate 7 (refine Rq.rK rfl rfl ?_; intro K hK; apply Exists.intro; refine ⟨?_, ?_⟩; (focus (intro x hx; obtain ⟨_, e1, e2, e3⟩ := VarAt.cells (((Rq.undrew hx).block v HVP.out).trans HVL.out); go_simp; (first | (fail) | ((try go_bits); (try go_simp); (try rfl))))); go_simp; refine hK _ ?_; clear hK K)
            refine Rq.cK rfl rfl rfl ?_ ?_
            · intro x Fs hx ho hg K hK
              have hxs := hx.size
              have hsz := HPL.out.size
              have hA : SchedAt x S (S + 2) qa ca now L := HPL.out.a.at (fun k hk => ho k hk)
              go_wp2_with fail
              refine (add_any S (S + 2) qa ca now xp xa L xi x hA (by omega) HG.out.srt (Nat.le_trans hsz hxs)).mono ?_
              rintro e x' ⟨q', c', rfl, hs', hk', hgr⟩
              rw [← HER.out]
              rw [← HL1.out] at hs' hgr
              go_wp2_with fail
              exact hK ⟨q', c', undef⟩ x' ⟨hk'.os, hk'.tape, hk'.output, hk'.size, fun k hk hn => hk'.block k hk (fun hm => hn (.inr hm))⟩ (fun y hy => hs'.keeps hy (.inl (.inr (.inl rfl))) (fun k hk => by
                rcases hgr k hk with h | h
                · exact .inl (.inr (.inr h))
                · exact .inr ⟨h, (hs'.2.2.lt k hk).2⟩))
            intro K hK; go_simp; refine hK _ ?_; clear hK K
            iterate 7 (refine Rq.rK rfl rfl ?_; intro K hK; apply Exists.intro; refine ⟨?_, ?_⟩; (focus (intro x hx; obtain ⟨_, e1, e2, e3⟩ := VarAt.cells (((Rq.undrew hx).block v HVP.out).trans HVL.out); go_simp; (first | (fail) | ((try go_bits); (try go_simp); (try rfl))))); go_simp; refine hK _ ?_; clear hK K)
            refine Rq.cK rfl rfl rfl ?_ ?_
            · intro x Fs hx ho hg K hK
              have hxs := hx.size
              have hsz := HPL.out.size
              have hD : DocAt x (S + 1) (S + 2) qd cd now L := HPL.out.d.at (fun k hk => ho k hk)
              go_wp2_with fail
              refine (docadd_any (S + 1) (S + 2) qd cd now xp xa L xi x hD (by omega) HG.out.srt (Nat.le_trans hsz hxs)).mono ?_
              rintro e x' ⟨q', c', rfl, hs', hk', hgr⟩
              rw [← HER.out]
              rw [← HL1.out] at hs' hgr
              go_wp2_with fail
              exact hK ⟨q', c', undef⟩ x' ⟨hk'.os, hk'.tape, hk'.output, hk'.size, fun k hk hn => hk'.block k hk (fun hm => hn (.inr (.inl hm)))⟩ (fun y hy => hs'.keeps hy (.inl (.inr (.inl rfl))) (fun k hk => by
                rcases hgr k hk with h | h
                · exact .inl (.inr (.inr h))
                · exact .inr ⟨h, (hs'.2.2.lt k hk).2⟩))
            intro K hK; go_simp; refine hK _ ?_; clear hK K
            iterate 1 (refine Rq.rK rfl rfl ?_; intro K hK; apply Exists.intro; refine ⟨?_, ?_⟩; (focus (intro x hx;  go_simp; (first | (fail) | ((try go_bits); (try go_simp); (try rfl))))); go_simp; refine hK _ ?_; clear hK K)
            refine Rq.done fun x Fs hx hg => ?_
            obtain ⟨q1, hq1⟩ : ∃ q1, q1 = (p 7).q := ⟨_, rfl⟩
            obtain ⟨c1, hc1⟩ : ∃ c1, c1 = (p 7).c := ⟨_, rfl⟩
            obtain ⟨q2, hq2⟩ : ∃ q2, q2 = (p 15).q := ⟨_, rfl⟩
            obtain ⟨c2, hc2⟩ : ∃ c2, c2 = (p 15).c := ⟨_, rfl⟩
            have hf7 : SchedAt x S (S + 2) (p 7).q (p 7).c now L1 := hg.1
            have hf15 : DocAt x (S + 1) (S + 2) (p 15).q (p 15).c now L1 := hg.2.1
            rw [← hq1, ← hc1] at hf7
            rw [← hq2, ← hc2] at hf15
            have hsm := Rq.undrew hx
            have hsz := HPL.out.size
            have hle := HPL.out.le
            have HPX : Hid (Pair w3' x S now now q1 c1 L1 q2 c2 L1) := Lib.hid ⟨hf7, hf15, hle, HPL.out.kept.trans ⟨hsm.os, hsm.tape, hsm.output, hsm.size, fun k hk => hsm.block k ⟨by omega, fun hm => by have := (HPL.out.ltA k hm).1; omega, fun hm => by have := (HPL.out.ltD k hm).1; omega⟩⟩⟩
            have HVX : Hid (VarAt x v ⟨xw, xi, xp, xa⟩) := Lib.hid ((hsm.block v HVP.out).trans HVL.out)
            have HG1 : Hid (Good L1) := Lib.hid (by rw [HL1.out]; exact HG.out.addD xi xp xa HXO.out.2.2.2)
            have hll1 : L1.length ≤ i + 1 := by rw [HL1.out]; have := addD_length L xi xp xa; omega
            obtain ⟨vc0, vc1, vc2, vc3⟩ := HVX.out.cells
            clear hq1 hc1 hq2 hc2 hf7 hf15 hsm hx hg hle hsz
            go_wp2_with fail
            refine NoPanic.normal ?_
            go_wp2_with fail
            clear vc0 vc1 vc2 vc3
            as_aux_lemma =>
              refine (next_any S (S + 2) q1 c1 (now) L1 xi x HPX.out.a (by omega) HG1.out (by omega) (by omega)).mono ?_
              rintro e wn ⟨rfl, hbn⟩
              obtain ⟨N, hN⟩ : ∃ N, N = (nextD L1 (now) xi).1 := ⟨_, rfl⟩
              obtain ⟨E, hE⟩ : ∃ E, E = (nextD L1 (now) xi).2 := ⟨_, rfl⟩
              rw [← hN, ← hE]
              have HPn := Lib.hid (HPX.out.below hbn)
              have HVn := Lib.hid (HVX.out.below hbn)
              obtain ⟨vc0, vc1, vc2, vc3⟩ := HVn.out.cells
              have HN := Lib.hid hN
              have HE := Lib.hid hE
              clear hbn hN hE
              go_wp2_with fail
              refine (docnext_any (S + 1) (S + 2) q2 c2 (now) L1 xi wn HPn.out.d (by omega) HG1.out (by omega) (by omega)).mono ?_
              rintro e wm ⟨rfl, hbm⟩
              rw [← HN.out, ← HE.out]
              have HPm := Lib.hid (HPn.out.below hbm)
              obtain ⟨dc0, dc1, _, _⟩ := HPm.out.d.cells
              have hsd := (Array.getElem?_eq_some_iff.1 HPm.out.d.1).1
              clear hbm vc0 vc1 vc2 vc3
              go_wp2_with fail
              refine Rc.region (wm.heap.size) 17 [Rc.F 10 (fun _ => .int .i64 (now)) (fun _ _ _ => True)] [] (by kernel_rfl) (Nat.le_refl _) (by kernel_rfl) ?_; intro p; simp only [List.take, List.drop]
              iterate 10 (refine Rc.rK rfl rfl ?_; intro K hK; apply Exists.intro; refine ⟨?_, ?_⟩; (focus (intro x hx;  go_simp; (first | (fail) | ((try go_bits); (try go_simp); (try rfl))))); go_simp; refine hK _ ?_; clear hK K)
              refine Rc.fK rfl rfl rfl rfl ?_ ?_
              · intro x Fs hx hle hg K hK
                have hsx := HPm.out.a.below (Rc.undrew hx)
                go_wp2_with fail
                refine (now_any S (S + 2) q1 c1 (now) L1 x hsx).mono ?_
                rintro e x' ⟨rfl, rfl⟩
                go_wp2_with fail
                exact hK Rc.dflt _ (Below.refl _ _) (fun _ _ _ _ => trivial)
              intro K hK; go_simp; refine hK _ ?_; clear hK K
              iterate 6 (refine Rc.rK rfl rfl ?_; intro K hK; apply Exists.intro; refine ⟨?_, ?_⟩; (focus (intro x hx; have e0 := Rc.cell_le hx hsd dc0; go_simp; (first | (fail) | ((try go_bits); (try go_simp); (try rfl))))); go_simp; refine hK _ ?_; clear hK K)
              refine Rc.done fun wq Fs hx hle hg => ?_
              have HPq := Lib.hid (HPm.out.below (Rc.undrew hx))
              clear hx hle hg dc0 dc1 hsd
              go_wp2_with fail
              refine NoPanic.normal ?_
              go_wp2_with fail
              refine (ids_any S (S + 2) q1 c1 (now) L1 wq HPq.out.a (by omega)).mono ?_
              rintro e wi ⟨qo, co, rfl, hri, hbi⟩
              have HPi := Lib.hid (HPq.out.below hbi)
              have HRI := Lib.hid hri
              obtain ⟨dc0, dc1, _, _⟩ := HPi.out.d.cells
              have hri0 := hri.1
              clear hri hbi
              go_wp2_with fail
              go_loopw [24] (fun kv wr2 => ∃ k : Nat, k ≤ List.length L1 ∧ kv = .int .i64 k ∧ Hid (Below wi.heap.size wi wr2)) (fun kv _ => List.length L1 - (intOf kv).toNat)
              case atStart => exact ⟨0, Nat.zero_le _, rfl, Lib.hid (Below.refl _ _)⟩
              case round =>
                obtain ⟨k, hk, rfl, HB2⟩ := hrel
                clear dc0 dc1
                by_cases hkl : k < List.length L1
                · have hkI : (k : Int) < (List.length L1 : Int) := by omega
                  obtain ⟨y, hy⟩ : ∃ y, (L1)[k]? = some y := ⟨_, List.getElem?_eq_getElem hkl⟩
                  have HPr := Lib.hid (HPi.out.below HB2.out)
                  obtain ⟨b2, o2, rfl, hb2, _, _, hc2⟩ := Rd_lt (HRI.out.below HB2.out) (by omega)
                  have hck := hc2 k _ (by unfold strsC; rw [List.getElem?_map, List.getElem?_map, hy]; rfl)
                  have HY := Lib.hid hy
                  obtain ⟨yi, yp, ya⟩ := y
                  have hck : wr.cell? ⟨b2, o2 + k, none⟩ = some (.string ⟨yi.toArray⟩) := hck
                  clear hc2 hy
                  go_wp2_with fail
                  refine (age_held S (S + 2) q1 c1 (now) L1 wr HPr.out.a (by omega) HG1.out.srt k ⟨yi, yp, ya⟩ HY.out).mono ?_
                  rintro e wg ⟨rfl, hbg⟩
                  have HPg := Lib.hid (HPr.out.below hbg)
                  have HB3 := Lib.hid (HB2.out.trans (hbg.mono HB2.out.size))
                  have hcg := Below.cell hbg (p := ⟨b2, o2 + k, none⟩) hb2 |>.trans hck
                  have hb3 : b2 < wg.heap.size := Nat.lt_of_lt_of_le hb2 hbg.size
                  obtain ⟨g, rfl⟩ := HPg.out.d.2.2.some_of_lt (by omega)
                  obtain ⟨r0, r1, r2, _, _⟩ := row_cellsE HPg.out.d.2.2 rfl HY.out
                  obtain ⟨dc0, dc1, _, _⟩ := HPg.out.d.cells
                  have hsd := (Array.getElem?_eq_some_iff.1 HPg.out.d.1).1
                  have hgl := (HPg.out.d.2.2.lt g rfl).2
                  have r0 : wg.cell? ⟨g, k * 3, none⟩ = some (.string ⟨yi.toArray⟩) := r0
                  have r2 : wg.cell? ⟨g, k * 3 + 2, none⟩ = some (.int .i64 ya) := r2
                  clear hbg hck
                  go_wp2_with fail
                  refine Rc.region (wg.heap.size) 29 [] [] (by kernel_rfl) (Nat.le_refl _) (by kernel_rfl) ?_; intro p; simp only [List.take, List.drop]
                  iterate 29 (refine Rc.rK rfl rfl ?_; intro K hK; apply Exists.intro; refine ⟨?_, ?_⟩; (focus (intro x hx; have e0 := Rc.cell_le hx hsd dc1; have e1 := Rc.cell_le hx hb3 hcg; have e2 := Rc.cell_le hx hgl r0; have e3 := Rc.cell_le hx hgl r2; go_simp; (first | (fail) | ((try go_bits); (try go_simp); (try rfl))))); go_simp; refine hK _ ?_; clear hK K)
                  refine Rc.done fun wz Fs hx hle hg => ?_
                  have HB4z := Lib.hid (HB3.out.trans ((Rc.undrew hx).mono HB3.out.size))
                  clear hx hle hg dc0 dc1 r0 r2 hcg
                  go_wp2_with fail
                  refine NoPanic.normal ?_
                  go_wp2_with fail
                  exact ⟨⟨k + 1, by omega, by go_num, HB4z⟩, by simp [intOf]; omega⟩
                · have hkI : ¬ (k : Int) < (List.length L1 : Int) := by omega
                  have HPr := Lib.hid (HPi.out.below HB2.out)
                  go_wp2_with fail
                  exact ⟨⟨i + 1, now, q1, c1, q2, c2, L1, by omega, by go_num, by omega, by omega, by omega, HPr, HG1⟩, by simp [intOf]; omega⟩
          · go_wp2_with (refine l_load rfl _ _ rfl _ HLD.out ?_)
            rw [← HWL.out, ← HVE.out]
            obtain ⟨er, her⟩ : ∃ er, er = (remD L xi).1 := ⟨_, rfl⟩
            obtain ⟨L1, hL1⟩ : ∃ L1, L1 = (remD L xi).2 := ⟨_, rfl⟩
            have HER := Lib.hid her
            have HL1 := Lib.hid hL1
            have hvp : v < wl.heap.size ∧ ¬ mineA S qa L.length ca v ∧ ¬ mineD S qd L.length cd v := ⟨HVL.out.lt, HVL.out.not_A HPL.out, HVL.out.not_D HPL.out⟩
            have HVP := Lib.hid hvp
            clear her hL1 hvp
            refine Rq.region (fun k => k < wl.heap.size ∧ ¬ mineA S qa L.length ca k ∧ ¬ mineD S qd L.length cd k) 9 [Rq.S 3 [] [] (mineA S qa L.length ca) (fun _ => .int .i64 er) (fun p _ y => SchedAt y S (S + 2) p.q p.c now L1), Rq.S 7 [] [] (mineD S qd L.length cd) (fun _ => .int .i64 er) (fun p _ y => DocAt y (S + 1) (S + 2) p.q p.c now L1)] [3, 7] (by kernel_rfl) (own_pair (i1 := 3) (i2 := 7) (fun k hk => (HPL.out.ltA k hk).2) (fun k hk => (HPL.out.ltD k hk).2) HPL.out.apart (by intro s hs; simp only [List.mem_cons, List.not_mem_nil, or_false] at hs; rcases hs with rfl | rfl; exact .inr (.inl ⟨rfl, rfl⟩); exact .inr (.inr ⟨rfl, rfl⟩)) (by decide)) (by kernel_rfl) ?_; intro p; simp only [List.take, List.drop]
            iterate 3 (refine Rq.rK rfl rfl ?_; intro K hK; apply Exists.intro; refine ⟨?_, ?_⟩; (focus (intro x hx; obtain ⟨_, e1, e2, e3⟩ := VarAt.cells (((Rq.undrew hx).block v HVP.out).trans HVL.out); go_simp; (first | (fail) | ((try go_bits); (try go_simp); (try rfl))))); go_simp; refine hK _ ?_; clear hK K)
            refine Rq.cK rfl rfl rfl ?_ ?_
            · intro x Fs hx ho hg K hK
              have hxs := hx.size
              have hsz := HPL.out.size
              have hA : SchedAt x S (S + 2) qa ca now L := HPL.out.a.at (fun k hk => ho k hk)
              go_wp2_with fail
              refine (rem_any S (S + 2) qa ca now L xi x hA (by omega) HG.out.srt).mono ?_
              rintro e x' ⟨rfl, hs', hk'⟩
              rw [← HER.out]
              rw [← HL1.out] at hs' 
              go_wp2_with fail
              exact hK ⟨qa, ca, undef⟩ x' ⟨hk'.os, hk'.tape, hk'.output, hk'.size, fun k hk hn => hk'.block k hk (fun hm => hn (.inr hm))⟩ (fun y hy => hs'.keeps hy (.inl (.inr (.inl rfl))) (fun k hk => .inl (.inr (.inr (by rw [← hk]; cases qa <;> rfl)))))
            intro K hK; go_simp; refine hK _ ?_; clear hK K
            iterate 3 (refine Rq.rK rfl rfl ?_; intro K hK; apply Exists.intro; refine ⟨?_, ?_⟩; (focus (intro x hx; obtain ⟨_, e1, e2, e3⟩ := VarAt.cells (((Rq.undrew hx).block v HVP.out).trans HVL.out); go_simp; (first | (fail) | ((try go_bits); (try go_simp); (try rfl))))); go_simp; refine hK _ ?_; clear hK K)
            refine Rq.cK rfl rfl rfl ?_ ?_
            · intro x Fs hx ho hg K hK
              have hxs := hx.size
              have hsz := HPL.out.size
              have hD : DocAt x (S + 1) (S + 2) qd cd now L := HPL.out.d.at (fun k hk => ho k hk)
              go_wp2_with fail
              refine (docrem_any (S + 1) (S + 2) qd cd now L xi x hD (by omega) HG.out.srt (Nat.le_trans hsz hxs)).mono ?_
              rintro e x' ⟨q', c', rfl, hs', hk', hgr⟩
              rw [← HER.out]
              rw [← HL1.out] at hs' hgr
              go_wp2_with fail
              exact hK ⟨q', c', undef⟩ x' ⟨hk'.os, hk'.tape, hk'.output, hk'.size, fun k hk hn => hk'.block k hk (fun hm => hn (.inr (.inl hm)))⟩ (fun y hy => hs'.keeps hy (.inl (.inr (.inl rfl))) (fun k hk => by
                rcases hgr k hk with h | h
                · exact .inl (.inr (.inr h))
                · exact .inr ⟨h, (hs'.2.2.lt k hk).2⟩))
            intro K hK; go_simp; refine hK _ ?_; clear hK K
            iterate 1 (refine Rq.rK rfl rfl ?_; intro K hK; apply Exists.intro; refine ⟨?_, ?_⟩; (focus (intro x hx;  go_simp; (first | (fail) | ((try go_bits); (try go_simp); (try rfl))))); go_simp; refine hK _ ?_; clear hK K)
            refine Rq.done fun x Fs hx hg => ?_
            obtain ⟨q1, hq1⟩ : ∃ q1, q1 = (p 3).q := ⟨_, rfl⟩
            obtain ⟨c1, hc1⟩ : ∃ c1, c1 = (p 3).c := ⟨_, rfl⟩
            obtain ⟨q2, hq2⟩ : ∃ q2, q2 = (p 7).q := ⟨_, rfl⟩
            obtain ⟨c2, hc2⟩ : ∃ c2, c2 = (p 7).c := ⟨_, rfl⟩
            have hf3 : SchedAt x S (S + 2) (p 3).q (p 3).c now L1 := hg.1
            have hf7 : DocAt x (S + 1) (S + 2) (p 7).q (p 7).c now L1 := hg.2.1
            rw [← hq1, ← hc1] at hf3
            rw [← hq2, ← hc2] at hf7
            have hsm := Rq.undrew hx
            have hsz := HPL.out.size
            have hle := HPL.out.le
            have HPX : Hid (Pair w3' x S now now q1 c1 L1 q2 c2 L1) := Lib.hid ⟨hf3, hf7, hle, HPL.out.kept.trans ⟨hsm.os, hsm.tape, hsm.output, hsm.size, fun k hk => hsm.block k ⟨by omega, fun hm => by have := (HPL.out.ltA k hm).1; omega, fun hm => by have := (HPL.out.ltD k hm).1; omega⟩⟩⟩
            have HVX : Hid (VarAt x v ⟨xw, xi, xp, xa⟩) := Lib.hid ((hsm.block v HVP.out).trans HVL.out)
            have HG1 : Hid (Good L1) := Lib.hid (by rw [HL1.out]; exact HG.out.remD xi)
            have hll1 : L1.length ≤ i + 1 := by rw [HL1.out]; have := remD_length L xi; omega
            obtain ⟨vc0, vc1, vc2, vc3⟩ := HVX.out.cells
            clear hq1 hc1 hq2 hc2 hf3 hf7 hsm hx hg hle hsz
            go_wp2_with fail
            refine NoPanic.normal ?_
            go_wp2_with fail
            clear vc0 vc1 vc2 vc3
            as_aux_lemma =>
              refine (next_any S (S + 2) q1 c1 (now) L1 xi x HPX.out.a (by omega) HG1.out (by omega) (by omega)).mono ?_
              rintro e wn ⟨rfl, hbn⟩
              obtain ⟨N, hN⟩ : ∃ N, N = (nextD L1 (now) xi).1 := ⟨_, rfl⟩
              obtain ⟨E, hE⟩ : ∃ E, E = (nextD L1 (now) xi).2 := ⟨_, rfl⟩
              rw [← hN, ← hE]
              have HPn := Lib.hid (HPX.out.below hbn)
              have HVn := Lib.hid (HVX.out.below hbn)
              obtain ⟨vc0, vc1, vc2, vc3⟩ := HVn.out.cells
              have HN := Lib.hid hN
              have HE := Lib.hid hE
              clear hbn hN hE
              go_wp2_with fail
              refine (docnext_any (S + 1) (S + 2) q2 c2 (now) L1 xi wn HPn.out.d (by omega) HG1.out (by omega) (by omega)).mono ?_
              rintro e wm ⟨rfl, hbm⟩
              rw [← HN.out, ← HE.out]
              have HPm := Lib.hid (HPn.out.below hbm)
              obtain ⟨dc0, dc1, _, _⟩ := HPm.out.d.cells
              have hsd := (Array.getElem?_eq_some_iff.1 HPm.out.d.1).1
              clear hbm vc0 vc1 vc2 vc3
              go_wp2_with fail
              refine Rc.region (wm.heap.size) 17 [Rc.F 10 (fun _ => .int .i64 (now)) (fun _ _ _ => True)] [] (by kernel_rfl) (Nat.le_refl _) (by kernel_rfl) ?_; intro p; simp only [List.take, List.drop]
              iterate 10 (refine Rc.rK rfl rfl ?_; intro K hK; apply Exists.intro; refine ⟨?_, ?_⟩; (focus (intro x hx;  go_simp; (first | (fail) | ((try go_bits); (try go_simp); (try rfl))))); go_simp; refine hK _ ?_; clear hK K)
              refine Rc.fK rfl rfl rfl rfl ?_ ?_
              · intro x Fs hx hle hg K hK
                have hsx := HPm.out.a.below (Rc.undrew hx)
                go_wp2_with fail
                refine (now_any S (S + 2) q1 c1 (now) L1 x hsx).mono ?_
                rintro e x' ⟨rfl, rfl⟩
                go_wp2_with fail
                exact hK Rc.dflt _ (Below.refl _ _) (fun _ _ _ _ => trivial)
              intro K hK; go_simp; refine hK _ ?_; clear hK K
              iterate 6 (refine Rc.rK rfl rfl ?_; intro K hK; apply Exists.intro; refine ⟨?_, ?_⟩; (focus (intro x hx; have e0 := Rc.cell_le hx hsd dc0; go_simp; (first | (fail) | ((try go_bits); (try go_simp); (try rfl))))); go_simp; refine hK _ ?_; clear hK K)
              refine Rc.done fun wq Fs hx hle hg => ?_
              have HPq := Lib.hid (HPm.out.below (Rc.undrew hx))
              clear hx hle hg dc0 dc1 hsd
              go_wp2_with fail
              refine NoPanic.normal ?_
              go_wp2_with fail
              refine (ids_any S (S + 2) q1 c1 (now) L1 wq HPq.out.a (by omega)).mono ?_
              rintro e wi ⟨qo, co, rfl, hri, hbi⟩
              have HPi := Lib.hid (HPq.out.below hbi)
              have HRI := Lib.hid hri
              obtain ⟨dc0, dc1, _, _⟩ := HPi.out.d.cells
              have hri0 := hri.1
              clear hri hbi
              go_wp2_with fail
              go_loopw [24] (fun kv wr2 => ∃ k : Nat, k ≤ List.length L1 ∧ kv = .int .i64 k ∧ Hid (Below wi.heap.size wi wr2)) (fun kv _ => List.length L1 - (intOf kv).toNat)
              case atStart => exact ⟨0, Nat.zero_le _, rfl, Lib.hid (Below.refl _ _)⟩
              case round =>
                obtain ⟨k, hk, rfl, HB2⟩ := hrel
                clear dc0 dc1
                by_cases hkl : k < List.length L1
                · have hkI : (k : Int) < (List.length L1 : Int) := by omega
                  obtain ⟨y, hy⟩ : ∃ y, (L1)[k]? = some y := ⟨_, List.getElem?_eq_getElem hkl⟩
                  have HPr := Lib.hid (HPi.out.below HB2.out)
                  obtain ⟨b2, o2, rfl, hb2, _, _, hc2⟩ := Rd_lt (HRI.out.below HB2.out) (by omega)
                  have hck := hc2 k _ (by unfold strsC; rw [List.getElem?_map, List.getElem?_map, hy]; rfl)
                  have HY := Lib.hid hy
                  obtain ⟨yi, yp, ya⟩ := y
                  have hck : wr.cell? ⟨b2, o2 + k, none⟩ = some (.string ⟨yi.toArray⟩) := hck
                  clear hc2 hy
                  go_wp2_with fail
                  refine (age_held S (S + 2) q1 c1 (now) L1 wr HPr.out.a (by omega) HG1.out.srt k ⟨yi, yp, ya⟩ HY.out).mono ?_
                  rintro e wg ⟨rfl, hbg⟩
                  have HPg := Lib.hid (HPr.out.below hbg)
                  have HB3 := Lib.hid (HB2.out.trans (hbg.mono HB2.out.size))
                  have hcg := Below.cell hbg (p := ⟨b2, o2 + k, none⟩) hb2 |>.trans hck
                  have hb3 : b2 < wg.heap.size := Nat.lt_of_lt_of_le hb2 hbg.size
                  obtain ⟨g, rfl⟩ := HPg.out.d.2.2.some_of_lt (by omega)
                  obtain ⟨r0, r1, r2, _, _⟩ := row_cellsE HPg.out.d.2.2 rfl HY.out
                  obtain ⟨dc0, dc1, _, _⟩ := HPg.out.d.cells
                  have hsd := (Array.getElem?_eq_some_iff.1 HPg.out.d.1).1
                  have hgl := (HPg.out.d.2.2.lt g rfl).2
                  have r0 : wg.cell? ⟨g, k * 3, none⟩ = some (.string ⟨yi.toArray⟩) := r0
                  have r2 : wg.cell? ⟨g, k * 3 + 2, none⟩ = some (.int .i64 ya) := r2
                  clear hbg hck
                  go_wp2_with fail
                  refine Rc.region (wg.heap.size) 29 [] [] (by kernel_rfl) (Nat.le_refl _) (by kernel_rfl) ?_; intro p; simp only [List.take, List.drop]
                  iterate 29 (refine Rc.rK rfl rfl ?_; intro K hK; apply Exists.intro; refine ⟨?_, ?_⟩; (focus (intro x hx; have e0 := Rc.cell_le hx hsd dc1; have e1 := Rc.cell_le hx hb3 hcg; have e2 := Rc.cell_le hx hgl r0; have e3 := Rc.cell_le hx hgl r2; go_simp; (first | (fail) | ((try go_bits); (try go_simp); (try rfl))))); go_simp; refine hK _ ?_; clear hK K)
                  refine Rc.done fun wz Fs hx hle hg => ?_
                  have HB4z := Lib.hid (HB3.out.trans ((Rc.undrew hx).mono HB3.out.size))
                  clear hx hle hg dc0 dc1 r0 r2 hcg
                  go_wp2_with fail
                  refine NoPanic.normal ?_
                  go_wp2_with fail
                  exact ⟨⟨k + 1, by omega, by go_num, HB4z⟩, by simp [intOf]; omega⟩
                · have hkI : ¬ (k : Int) < (List.length L1 : Int) := by omega
                  have HPr := Lib.hid (HPi.out.below HB2.out)
                  go_wp2_with fail
                  exact ⟨⟨i + 1, now, q1, c1, q2, c2, L1, by omega, by go_num, by omega, by omega, by omega, HPr, HG1⟩, by simp [intOf]; omega⟩
          · go_wp2_with (refine l_load rfl _ _ rfl _ HLD.out ?_)
            rw [← HWL.out, ← HVE.out]
            by_cases hmost : now = 9223372036854775807
            · subst hmost
              refine (tick_most S (S + 2) qa ca L wl HPL.out.a).mono ?_
              rintro e wt ⟨rfl, hw⟩
              obtain rfl : wl = wt := hw.symm
              clear hw
              go_wp2_with fail
              refine (doctick_most (S + 1) (S + 2) qd cd L wl HPL.out.d).mono ?_
              rintro e wt ⟨rfl, hw⟩
              obtain rfl : wl = wt := hw.symm
              clear hw
              go_wp2_with fail
              refine (same_any none none 0 0 [] wl (Rd.nil _ _) (Rd.nil _ _) (by decide)).mono ?_
              rintro e ws ⟨rfl, hbs⟩
              have HPX := Lib.hid (HPL.out.below hbs)
              have HVX := Lib.hid (HVL.out.below hbs)
              obtain ⟨vc0, vc1, vc2, vc3⟩ := HVX.out.cells
              clear hbs
              go_wp2_with fail
              clear vc0 vc1 vc2 vc3
              as_aux_lemma =>
                refine (next_any S (S + 2) qa ca (9223372036854775807) L xi ws HPX.out.a (by omega) HG.out (by omega) (by omega)).mono ?_
                rintro e wn ⟨rfl, hbn⟩
                obtain ⟨N, hN⟩ : ∃ N, N = (nextD L (9223372036854775807) xi).1 := ⟨_, rfl⟩
                obtain ⟨E, hE⟩ : ∃ E, E = (nextD L (9223372036854775807) xi).2 := ⟨_, rfl⟩
                rw [← hN, ← hE]
                have HPn := Lib.hid (HPX.out.below hbn)
                have HVn := Lib.hid (HVX.out.below hbn)
                obtain ⟨vc0, vc1, vc2, vc3⟩ := HVn.out.cells
                have HN := Lib.hid hN
                have HE := Lib.hid hE
                clear hbn hN hE
                go_wp2_with fail
                refine (docnext_any (S + 1) (S + 2) qd cd (9223372036854775807) L xi wn HPn.out.d (by omega) HG.out (by omega) (by omega)).mono ?_
                rintro e wm ⟨rfl, hbm⟩
                rw [← HN.out, ← HE.out]
                have HPm := Lib.hid (HPn.out.below hbm)
                obtain ⟨dc0, dc1, _, _⟩ := HPm.out.d.cells
                have hsd := (Array.getElem?_eq_some_iff.1 HPm.out.d.1).1
                clear hbm vc0 vc1 vc2 vc3
                go_wp2_with fail
                refine Rc.region (wm.heap.size) 17 [Rc.F 10 (fun _ => .int .i64 (9223372036854775807)) (fun _ _ _ => True)] [] (by kernel_rfl) (Nat.le_refl _) (by kernel_rfl) ?_; intro p; simp only [List.take, List.drop]
                iterate 10 (refine Rc.rK rfl rfl ?_; intro K hK; apply Exists.intro; refine ⟨?_, ?_⟩; (focus (intro x hx;  go_simp; (first | (fail) | ((try go_bits); (try go_simp); (try rfl))))); go_simp; refine hK _ ?_; clear hK K)
                refine Rc.fK rfl rfl rfl rfl ?_ ?_
                · intro x Fs hx hle hg K hK
                  have hsx := HPm.out.a.below (Rc.undrew hx)
                  go_wp2_with fail
                  refine (now_any S (S + 2) qa ca (9223372036854775807) L x hsx).mono ?_
                  rintro e x' ⟨rfl, rfl⟩
                  go_wp2_with fail
                  exact hK Rc.dflt _ (Below.refl _ _) (fun _ _ _ _ => trivial)
                intro K hK; go_simp; refine hK _ ?_; clear hK K
                iterate 6 (refine Rc.rK rfl rfl ?_; intro K hK; apply Exists.intro; refine ⟨?_, ?_⟩; (focus (intro x hx; have e0 := Rc.cell_le hx hsd dc0; go_simp; (first | (fail) | ((try go_bits); (try go_simp); (try rfl))))); go_simp; refine hK _ ?_; clear hK K)
                refine Rc.done fun wq Fs hx hle hg => ?_
                have HPq := Lib.hid (HPm.out.below (Rc.undrew hx))
                clear hx hle hg dc0 dc1 hsd
                go_wp2_with fail
                refine NoPanic.normal ?_
                go_wp2_with fail
                refine (ids_any S (S + 2) qa ca (9223372036854775807) L wq HPq.out.a (by omega)).mono ?_
                rintro e wi ⟨qo, co, rfl, hri, hbi⟩
                have HPi := Lib.hid (HPq.out.below hbi)
                have HRI := Lib.hid hri
                obtain ⟨dc0, dc1, _, _⟩ := HPi.out.d.cells
                have hri0 := hri.1
                clear hri hbi
                go_wp2_with fail
                go_loopw [24] (fun kv wr2 => ∃ k : Nat, k ≤ List.length L ∧ kv = .int .i64 k ∧ Hid (Below wi.heap.size wi wr2)) (fun kv _ => List.length L - (intOf kv).toNat)
                case atStart => exact ⟨0, Nat.zero_le _, rfl, Lib.hid (Below.refl _ _)⟩
                case round =>
                  obtain ⟨k, hk, rfl, HB2⟩ := hrel
                  clear dc0 dc1
                  by_cases hkl : k < List.length L
                  · have hkI : (k : Int) < (List.length L : Int) := by omega
                    obtain ⟨y, hy⟩ : ∃ y, (L)[k]? = some y := ⟨_, List.getElem?_eq_getElem hkl⟩
                    have HPr := Lib.hid (HPi.out.below HB2.out)
                    obtain ⟨b2, o2, rfl, hb2, _, _, hc2⟩ := Rd_lt (HRI.out.below HB2.out) (by omega)
                    have hck := hc2 k _ (by unfold strsC; rw [List.getElem?_map, List.getElem?_map, hy]; rfl)
                    have HY := Lib.hid hy
                    obtain ⟨yi, yp, ya⟩ := y
                    have hck : wr.cell? ⟨b2, o2 + k, none⟩ = some (.string ⟨yi.toArray⟩) := hck
                    clear hc2 hy
                    go_wp2_with fail
                    refine (age_held S (S + 2) qa ca (9223372036854775807) L wr HPr.out.a (by omega) HG.out.srt k ⟨yi, yp, ya⟩ HY.out).mono ?_
                    rintro e wg ⟨rfl, hbg⟩
                    have HPg := Lib.hid (HPr.out.below hbg)
                    have HB3 := Lib.hid (HB2.out.trans (hbg.mono HB2.out.size))
                    have hcg := Below.cell hbg (p := ⟨b2, o2 + k, none⟩) hb2 |>.trans hck
                    have hb3 : b2 < wg.heap.size := Nat.lt_of_lt_of_le hb2 hbg.size
                    obtain ⟨g, rfl⟩ := HPg.out.d.2.2.some_of_lt (by omega)
                    obtain ⟨r0, r1, r2, _, _⟩ := row_cellsE HPg.out.d.2.2 rfl HY.out
                    obtain ⟨dc0, dc1, _, _⟩ := HPg.out.d.cells
                    have hsd := (Array.getElem?_eq_some_iff.1 HPg.out.d.1).1
                    have hgl := (HPg.out.d.2.2.lt g rfl).2
                    have r0 : wg.cell? ⟨g, k * 3, none⟩ = some (.string ⟨yi.toArray⟩) := r0
                    have r2 : wg.cell? ⟨g, k * 3 + 2, none⟩ = some (.int .i64 ya) := r2
                    clear hbg hck
                    go_wp2_with fail
                    refine Rc.region (wg.heap.size) 29 [] [] (by kernel_rfl) (Nat.le_refl _) (by kernel_rfl) ?_; intro p; simp only [List.take, List.drop]
                    iterate 29 (refine Rc.rK rfl rfl ?_; intro K hK; apply Exists.intro; refine ⟨?_, ?_⟩; (focus (intro x hx; have e0 := Rc.cell_le hx hsd dc1; have e1 := Rc.cell_le hx hb3 hcg; have e2 := Rc.cell_le hx hgl r0; have e3 := Rc.cell_le hx hgl r2; go_simp; (first | (fail) | ((try go_bits); (try go_simp); (try rfl))))); go_simp; refine hK _ ?_; clear hK K)
                    refine Rc.done fun wz Fs hx hle hg => ?_
                    have HB4z := Lib.hid (HB3.out.trans ((Rc.undrew hx).mono HB3.out.size))
                    clear hx hle hg dc0 dc1 r0 r2 hcg
                    go_wp2_with fail
                    refine NoPanic.normal ?_
                    go_wp2_with fail
                    exact ⟨⟨k + 1, by omega, by go_num, HB4z⟩, by simp [intOf]; omega⟩
                  · have hkI : ¬ (k : Int) < (List.length L : Int) := by omega
                    have HPr := Lib.hid (HPi.out.below HB2.out)
                    go_wp2_with fail
                    exact ⟨⟨i + 1, 9223372036854775807, qa, ca, qd, cd, L, by omega, by go_num, by omega, by omega, by omega, HPr, HG⟩, by simp [intOf]; omega⟩
            · have hnow : now < 9223372036854775807 := by omega
              refine (tick_own S (S + 2) qa ca now L wl HPL.out.a (by omega) hn0 hnow HG.out.each).mono ?_
              rintro e wt ⟨qo, co, rfl, hsa, hra, hka⟩
              obtain ⟨D, hD⟩ : ∃ D, D = dues L := ⟨_, rfl⟩
              rw [← hD] at hra ⊢
              have HPT := Lib.hid (HPL.out.turnA hsa hka)
              have HVT := Lib.hid (HVL.out.turnA HPL.out hka)
              have HRA := Lib.hid hra
              have HD := Lib.hid hD
              have hdl : D.length ≤ 100 := by rw [hD]; have := dues_len L; omega
              obtain ⟨L1, hL1⟩ : ∃ L1, L1 = L.map tick1 := ⟨_, rfl⟩
              have HL1 := Lib.hid hL1
              clear hsa hka hra hD hL1
              go_wp2_with fail
              refine (doctick_any (S + 1) (S + 2) qd cd now L wt HPT.out.d (by omega) hn0 hnow HG.out.each).mono ?_
              rintro e wu ⟨qp, cp, rfl, hsd, hrd, hkd⟩
              rw [← HD.out] at hrd ⊢
              have HPU : Hid (Pair w3' wu S (now + 1) (now + 1) qa ca L1 qd cd L1) := Lib.hid (by rw [HL1.out]; exact HPT.out.turnD hsd hkd)
              have HVU := Lib.hid (HVT.out.turnD HPT.out hkd)
              have hra2 : Rd wu 1 (.slice qo D.length co) D.length (strsC D) := Rd.of_ow (HRA.out.kp hkd (fun k hk hm => by
                obtain ⟨c1, f1, h1⟩ := HRA.out.typed hk
                rcases hm with rfl | hm
                · exact ne_typed h1 HPT.out.d.1 (by decide) rfl
                · obtain ⟨c2, f2, h2⟩ := HPT.out.d.2.2.typed hm
                  exact ne_typed h1 h2 (by decide) rfl))
              have HRA2 := Lib.hid hra2
              have HRD := Lib.hid hrd
              clear hsd hrd hkd hra2
              go_wp2_with fail
              refine (same_any qo qp co cp D wu HRA2.out HRD.out (by omega)).mono ?_
              rintro e ws ⟨rfl, hbs⟩
              have HPX := Lib.hid (HPU.out.below hbs)
              have HVX := Lib.hid (HVU.out.below hbs)
              have HG1 : Hid (Good L1) := Lib.hid (by rw [HL1.out]; exact HG.out.ticked)
              have hll1 : L1.length ≤ i := by rw [HL1.out, List.length_map]; exact hll
              have hw1 : now + 1 ≤ 9223372036854775807 := by omega
              obtain ⟨vc0, vc1, vc2, vc3⟩ := HVX.out.cells
              clear hbs
              go_wp2_with fail
              clear vc0 vc1 vc2 vc3
              as_aux_lemma =>
                refine (next_any S (S + 2) qa ca (now + 1) L1 xi ws HPX.out.a (by omega) HG1.out (by omega) (by omega)).mono ?_
                rintro e wn ⟨rfl, hbn⟩
                obtain ⟨N, hN⟩ : ∃ N, N = (nextD L1 (now + 1) xi).1 := ⟨_, rfl⟩
                obtain ⟨E, hE⟩ : ∃ E, E = (nextD L1 (now + 1) xi).2 := ⟨_, rfl⟩
                rw [← hN, ← hE]
                have HPn := Lib.hid (HPX.out.below hbn)
                have HVn := Lib.hid (HVX.out.below hbn)
                obtain ⟨vc0, vc1, vc2, vc3⟩ := HVn.out.cells
                have HN := Lib.hid hN
                have HE := Lib.hid hE
                clear hbn hN hE
                go_wp2_with fail
                refine (docnext_any (S + 1) (S + 2) qd cd (now + 1) L1 xi wn HPn.out.d (by omega) HG1.out (by omega) (by omega)).mono ?_
                rintro e wm ⟨rfl, hbm⟩
                rw [← HN.out, ← HE.out]
                have HPm := Lib.hid (HPn.out.below hbm)
                obtain ⟨dc0, dc1, _, _⟩ := HPm.out.d.cells
                have hsd := (Array.getElem?_eq_some_iff.1 HPm.out.d.1).1
                clear hbm vc0 vc1 vc2 vc3
                go_wp2_with fail
                refine Rc.region (wm.heap.size) 17 [Rc.F 10 (fun _ => .int .i64 (now + 1)) (fun _ _ _ => True)] [] (by kernel_rfl) (Nat.le_refl _) (by kernel_rfl) ?_; intro p; simp only [List.take, List.drop]
                iterate 10 (refine Rc.rK rfl rfl ?_; intro K hK; apply Exists.intro; refine ⟨?_, ?_⟩; (focus (intro x hx;  go_simp; (first | (fail) | ((try go_bits); (try go_simp); (try rfl))))); go_simp; refine hK _ ?_; clear hK K)
                refine Rc.fK rfl rfl rfl rfl ?_ ?_
                · intro x Fs hx hle hg K hK
                  have hsx := HPm.out.a.below (Rc.undrew hx)
                  go_wp2_with fail
                  refine (now_any S (S + 2) qa ca (now + 1) L1 x hsx).mono ?_
                  rintro e x' ⟨rfl, rfl⟩
                  go_wp2_with fail
                  exact hK Rc.dflt _ (Below.refl _ _) (fun _ _ _ _ => trivial)
                intro K hK; go_simp; refine hK _ ?_; clear hK K
                iterate 6 (refine Rc.rK rfl rfl ?_; intro K hK; apply Exists.intro; refine ⟨?_, ?_⟩; (focus (intro x hx; have e0 := Rc.cell_le hx hsd dc0; go_simp; (first | (fail) | ((try go_bits); (try go_simp); (try rfl))))); go_simp; refine hK _ ?_; clear hK K)
                refine Rc.done fun wq Fs hx hle hg => ?_
                have HPq := Lib.hid (HPm.out.below (Rc.undrew hx))
                clear hx hle hg dc0 dc1 hsd
                go_wp2_with fail
                refine NoPanic.normal ?_
                go_wp2_with fail
                refine (ids_any S (S + 2) qa ca (now + 1) L1 wq HPq.out.a (by omega)).mono ?_
                rintro e wi ⟨qo, co, rfl, hri, hbi⟩
                have HPi := Lib.hid (HPq.out.below hbi)
                have HRI := Lib.hid hri
                obtain ⟨dc0, dc1, _, _⟩ := HPi.out.d.cells
                have hri0 := hri.1
                clear hri hbi
                go_wp2_with fail
                go_loopw [24] (fun kv wr2 => ∃ k : Nat, k ≤ List.length L1 ∧ kv = .int .i64 k ∧ Hid (Below wi.heap.size wi wr2)) (fun kv _ => List.length L1 - (intOf kv).toNat)
                case atStart => exact ⟨0, Nat.zero_le _, rfl, Lib.hid (Below.refl _ _)⟩
                case round =>
                  obtain ⟨k, hk, rfl, HB2⟩ := hrel
                  clear dc0 dc1
                  by_cases hkl : k < List.length L1
                  · have hkI : (k : Int) < (List.length L1 : Int) := by omega
                    obtain ⟨y, hy⟩ : ∃ y, (L1)[k]? = some y := ⟨_, List.getElem?_eq_getElem hkl⟩
                    have HPr := Lib.hid (HPi.out.below HB2.out)
                    obtain ⟨b2, o2, rfl, hb2, _, _, hc2⟩ := Rd_lt (HRI.out.below HB2.out) (by omega)
                    have hck := hc2 k _ (by unfold strsC; rw [List.getElem?_map, List.getElem?_map, hy]; rfl)
                    have HY := Lib.hid hy
                    obtain ⟨yi, yp, ya⟩ := y
                    have hck : wr.cell? ⟨b2, o2 + k, none⟩ = some (.string ⟨yi.toArray⟩) := hck
                    clear hc2 hy
                    go_wp2_with fail
                    refine (age_held S (S + 2) qa ca (now + 1) L1 wr HPr.out.a (by omega) HG1.out.srt k ⟨yi, yp, ya⟩ HY.out).mono ?_
                    rintro e wg ⟨rfl, hbg⟩
                    have HPg := Lib.hid (HPr.out.below hbg)
                    have HB3 := Lib.hid (HB2.out.trans (hbg.mono HB2.out.size))
                    have hcg := Below.cell hbg (p := ⟨b2, o2 + k, none⟩) hb2 |>.trans hck
                    have hb3 : b2 < wg.heap.size := Nat.lt_of_lt_of_le hb2 hbg.size
                    obtain ⟨g, rfl⟩ := HPg.out.d.2.2.some_of_lt (by omega)
                    obtain ⟨r0, r1, r2, _, _⟩ := row_cellsE HPg.out.d.2.2 rfl HY.out
                    obtain ⟨dc0, dc1, _, _⟩ := HPg.out.d.cells
                    have hsd := (Array.getElem?_eq_some_iff.1 HPg.out.d.1).1
                    have hgl := (HPg.out.d.2.2.lt g rfl).2
                    have r0 : wg.cell? ⟨g, k * 3, none⟩ = some (.string ⟨yi.toArray⟩) := r0
                    have r2 : wg.cell? ⟨g, k * 3 + 2, none⟩ = some (.int .i64 ya) := r2
                    clear hbg hck
                    go_wp2_with fail
                    refine Rc.region (wg.heap.size) 29 [] [] (by kernel_rfl) (Nat.le_refl _) (by kernel_rfl) ?_; intro p; simp only [List.take, List.drop]
                    iterate 29 (refine Rc.rK rfl rfl ?_; intro K hK; apply Exists.intro; refine ⟨?_, ?_⟩; (focus (intro x hx; have e0 := Rc.cell_le hx hsd dc1; have e1 := Rc.cell_le hx hb3 hcg; have e2 := Rc.cell_le hx hgl r0; have e3 := Rc.cell_le hx hgl r2; go_simp; (first | (fail) | ((try go_bits); (try go_simp); (try rfl))))); go_simp; refine hK _ ?_; clear hK K)
                    refine Rc.done fun wz Fs hx hle hg => ?_
                    have HB4z := Lib.hid (HB3.out.trans ((Rc.undrew hx).mono HB3.out.size))
                    clear hx hle hg dc0 dc1 r0 r2 hcg
                    go_wp2_with fail
                    refine NoPanic.normal ?_
                    go_wp2_with fail
                    exact ⟨⟨k + 1, by omega, by go_num, HB4z⟩, by simp [intOf]; omega⟩
                  · have hkI : ¬ (k : Int) < (List.length L1 : Int) := by omega
                    have HPr := Lib.hid (HPi.out.below HB2.out)
                    go_wp2_with fail
                    exact ⟨⟨i + 1, now + 1, qa, ca, qd, cd, L1, by omega, by go_num, by omega, by omega, by omega, HPr, HG1⟩, by simp [intOf]; omega⟩
        · have hltI : ¬ (i : Int) < 40 := by omega
          have HBZ := Lib.hid HP.out.kept
          go_wp2_with fail
          go_ret
          exact ⟨rfl, HBZ.out⟩
      · have hjI : ¬ (i : Int) < (J.length : Int) := by omega
        have HBZ := Lib.hid HP.out.kept
        go_wp2_with fail
        go_ret
        exact ⟨rfl, HBZ.out⟩
end Cad
end Go.Proofs.Ytmkoiddfkanmiaa

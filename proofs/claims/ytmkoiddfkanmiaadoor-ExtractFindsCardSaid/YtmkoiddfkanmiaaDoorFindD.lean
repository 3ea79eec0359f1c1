/- custumallaw30.texts and the document's Find. -/
import Derived.Test.YtmkoiddfkanmiaaDoorGFindA
import Derived.Test.YtmkoiddfkanmiaaDoorRefB
namespace Go.Proofs.YtmkoiddfkanmiaaDoor
open Go.RowKit Bits Mem Sha Cad
namespace Fnd
theorem infoStrF : (Tryd.prog.info? 9).map (fun i => (i.zero, i.size, i.bytes)) = some (some (.string ⟨#[]⟩), 1, 16) := by kernel_rfl
set_option maxRecDepth 100000 in
set_option maxHeartbeats 2000000 in
theorem texts_any (q : Option Addr) (c : Nat) (U : List (List UInt8)) (w : World) (hp : Parts w (.slice q U.length c) U) (hul : U.length ≤ 1000) :
    Calls Tryd.prog 10 #[.slice q U.length c] w fun e w' => ∃ qo co, e = .returned (.slice qo U.length co) ∧ Ow w' w.heap.size 9 1 (.slice qo U.length co) U.length (strsC U) ∧ Below w.heap.size w w' := by
  obtain ⟨i0, hi0, hz0, hz1, hz2⟩ := parts3M infoStrF
  have HP := Lib.hid hp
  obtain ⟨w0, hw0⟩ : ∃ w0, w0 = w.alloc (.cells #[] 9) := ⟨_, rfl⟩
  have HO0 : Hid (Ow w0 w.heap.size 9 1 (.slice (some ⟨w.heap.size, 0, none⟩) 0 0) 0 []) := Lib.hid (by rw [hw0]; exact Ow.lit w #[] 9 1 0 w.heap.size (Nat.le_refl _) (Nat.zero_le _) rfl)
  have HB0 : Hid (Below w.heap.size w w0) := Lib.hid (by rw [hw0]; exact (Below.refl _ _).alloc (Nat.le_refl _) _)
  have HW0 := Lib.hid hw0
  clear hp hw0
  go_enter Tryd.func10, Tryd.ntmps10
  go_wp2_with fail
  rw [← HW0.out]
  go_loopw [3, 4] (fun ov iv wr => ∃ (k : Nat) (qo : Option Addr) (co : Nat), k ≤ U.length ∧ iv = .int .i64 k ∧ ov = .slice qo k co ∧ Hid (Ow wr w.heap.size 9 1 (.slice qo k co) k (strsC (U.take k))) ∧ Hid (Below w.heap.size w wr)) (fun _ iv _ => U.length - (intOf iv).toNat)
  case atStart => exact ⟨0, _, 0, Nat.zero_le _, rfl, rfl, HO0, HB0⟩
  case round =>
    clear HO0 HB0 HW0
    obtain ⟨k, qo, co, hk, rfl, rfl, HO, HB⟩ := hrel
    by_cases hlt : k < U.length
    · have hltI : (k : Int) < (U.length : Int) := by omega
      obtain ⟨b0, o0, qk, ck, rfl, hb0, hcell, hrd⟩ := part_at (HP.out.below HB.out) hlt
      have hta : U.take (k + 1) = U.take k ++ [U.getD k []] := by
        rw [List.take_add_one, List.getD_eq_getElem?_getD, List.getElem?_eq_getElem hlt]; rfl
      obtain ⟨t, ht⟩ : ∃ t, t = U.getD k [] := ⟨_, rfl⟩
      rw [← ht] at hcell hrd hta
      have HCV : Hid ((convert 24 9 (.slice qk t.length ck)).run Tryd.prog wr = .ok (.string ⟨t.toArray⟩) wr) := Lib.hid (run_conv_str (P := Tryd.prog) hrd 9 24 5 Tryd.underlying9 Tryd.underlying24 Tryd.underlying5)
      have HTA := Lib.hid hta
      obtain ⟨wl, hwl⟩ : ∃ wl, wl = wr.alloc (.cells #[.string ⟨t.toArray⟩] 9) := ⟨_, rfl⟩
      have hlit := Rd_lit wr #[.string ⟨t.toArray⟩] 9 1 1 rfl (by decide)
      have hbl : Below wr.heap.size wr wl := by rw [hwl]; exact (Below.refl wr.heap.size wr).alloc (Nat.le_refl _) _
      rw [← hwl] at hlit
      have HLIT := Lib.hid hlit
      have HWL := Lib.hid hwl
      have HOL := Lib.hid (HO.out.below hbl)
      have hws := hbl.size
      have hrl := HB.out.size
      have HBL := Lib.hid hbl
      clear hlit hwl hbl ht hrd hta
      go_wp2_with (first | (refine l_convF rfl 24 9 _ rfl _ _ rfl HCV.out ?_) | (at_builtin; go_must (rw [← HWL.out]); go_must (refine app_ow3 rfl _ _ 29 29 rfl w.heap.size 9 i0 (.string ⟨#[]⟩) 1 16 Tryd.underlying29 hi0 hz0 hz1 hz2 (by rfl) _ k _ rfl HOL.out 1 _ rfl (Rd.src Tryd.underlying29 HLIT.out (strsC_one [t])) (by unfold maxLen; omega) (by omega) (by omega) ?_); go_must (intro v4 w4 how4 hg4 hn4); go_must (obtain ⟨q4, c4, rfl⟩ := Ow_form how4); go_must (refine Hid.out ?_)))
      refine Lib.hid ?_
      have hsc : strsC (U.take (k + 1)) = strsC (U.take k) ++ [.string ⟨t.toArray⟩] := by rw [HTA.out]; unfold strsC; rw [List.map_append]; rfl
      have HO4 : Hid (Ow w4 w.heap.size 9 1 (.slice q4 (k + 1) c4) (k + 1) (strsC (U.take (k + 1)))) := Lib.hid (by rw [hsc]; exact how4)
      clear hsc
      have hk4 : Kp (fun j => (Value.slice qo k co).ownBlock = some j) wr w4 := (Kp.of_below HBL.out).trans (Kp.of_grown hg4) (fun _ _ h => h)
      have HB4 : Hid (Below w.heap.size w w4) := Lib.hid (HB.out.trans (hk4.below hrl (fun j hj => (HO.out.lt j hj).1)))
      clear how4 hg4 hn4 hk4
      go_wp2_with fail
      exact ⟨⟨k + 1, q4, c4, by omega, by go_num, rfl, HO4, HB4⟩, by simp [intOf]; omega⟩
    · have hltI : ¬ (k : Int) < (U.length : Int) := by omega
      obtain rfl : k = U.length := by omega
      go_wp2_with fail
      go_ret
      exact ⟨qo, co, rfl, by have := HO.out; rwa [List.take_length] at this, HB.out⟩
theorem pick_eq (V : List (List UInt8)) (t : List UInt8) : pick V t = (List.range V.length).find? fun k => (sha (V.getD k []) == sha t) && (V.getD k [] != t) := by
  unfold pick idx
  rw [List.find?_filter]
  congr 1
  funext a
  rw [Bool.decide_and, Bool.decide_eq_true, Bool.decide_eq_true]
theorem pick_some {V : List (List UInt8)} {t : List UInt8} {k : Nat} (hk : k < V.length) (h1 : (V.getD k [] != t) = true) (h2 : (sha (V.getD k []) == sha t) = true) (h3 : ∀ j, j < k → ((sha (V.getD j []) == sha t) && (V.getD j [] != t)) = false) : pick V t = some k := by
  rw [pick_eq, List.find?_eq_some_iff_getElem]
  refine ⟨by rw [h1, h2]; rfl, k, by rw [List.length_range]; exact hk, by rw [List.getElem_range], fun j hj => ?_⟩
  rw [List.getElem_range, h3 j hj]
  decide
theorem pick_none {V : List (List UInt8)} {t : List UInt8} (h3 : ∀ j, j < V.length → ((sha (V.getD j []) == sha t) && (V.getD j [] != t)) = false) : pick V t = none := by
  rw [pick_eq, List.find?_eq_none]
  intro j hj
  rw [h3 j (List.mem_range.1 hj)]
  decide
/-- A text among strings, as it lies. -/
theorem str_at {w : World} {q : Option Addr} {c : Nat} {V : List (List UInt8)} (h : Rd w 1 (.slice q V.length c) V.length (strsC V)) {k : Nat} (hk : k < V.length) :
    ∃ b off, q = some ⟨b, off, none⟩ ∧ b < w.heap.size ∧ w.cell? ⟨b, off + k, none⟩ = some (.string ⟨(V.getD k []).toArray⟩) := by
  obtain ⟨b, off, hq, hb, _, _, hc⟩ := Rd_lt h (by omega)
  exact ⟨b, off, hq, hb, hc k _ (by unfold strsC; rw [List.getElem?_map, List.getD_eq_getElem?_getD, List.getElem?_eq_getElem hk]; rfl)⟩
set_option maxRecDepth 100000 in
set_option maxHeartbeats 4000000 in
theorem reffind_any (qa : Option Addr) (ca : Nat) (U : List (List UInt8)) (qb : Option Addr) (cb : Nat) (V : List (List UInt8)) (w : World) (hR : Ref.Tabs w) (ha : Rd w 1 (.slice qa U.length ca) U.length (strsC U)) (hb : Rd w 1 (.slice qb V.length cb) V.length (strsC V))
    (hul : U.length ≤ 1000) (hvl : V.length ≤ 1000) (hu : ∀ t ∈ U, t.length ≤ 1000000) (hv : ∀ t ∈ V, t.length ≤ 1000000) :
    Calls Tryd.prog 9 #[.slice qa U.length ca, .slice qb V.length cb] w fun e w' => e = .returned (.tuple #[.string ⟨(findP V U).1.toArray⟩, .string ⟨(findP V U).2.1.toArray⟩, .bool (findP V U).2.2]) ∧ Below w.heap.size w w' := by
  have HR := Lib.hid hR
  have HA := Lib.hid ha
  have HBQ := Lib.hid hb
  have HU := Lib.hid hu
  have HVL := Lib.hid hv
  clear hR ha hb hu hv
  go_enter Tryd.func9, Tryd.ntmps9
  go_wp2_with fail
  go_loopw [7] (fun iv wr => ∃ i : Nat, i ≤ U.length ∧ iv = .int .i64 i ∧ Hid (Below w.heap.size w wr) ∧ Hid (findP V (U.drop i) = findP V U)) (fun iv _ => U.length - (intOf iv).toNat)
  case atStart => exact ⟨0, Nat.zero_le _, rfl, Lib.hid (Below.refl _ _), Lib.hid (by rw [List.drop_zero])⟩
  case round =>
    obtain ⟨i, hi, rfl, HB, HF⟩ := hrel
    by_cases hlt : i < U.length
    · have hltI : (i : Int) < (U.length : Int) := by omega
      obtain ⟨b1, o1, rfl, hb1', d1'⟩ := str_at HA.out hlt
      have htl := HU.out (U.getD i []) (by rw [List.getD_eq_getElem?_getD, List.getElem?_eq_getElem hlt]; exact List.getElem_mem hlt)
      have hdr : U.drop i = U.getD i [] :: U.drop (i + 1) := by
        rw [List.drop_eq_getElem_cons hlt, List.getD_eq_getElem?_getD, List.getElem?_eq_getElem hlt]; rfl
      obtain ⟨t, ht⟩ : ∃ t, t = U.getD i [] := ⟨_, rfl⟩
      rw [← ht] at d1' htl hdr
      rw [hdr] at HF
      have d1 : wr.cell? ⟨b1, o1 + i, none⟩ = some (.string ⟨t.toArray⟩) := (Below.cell HB.out hb1').trans d1'
      have HD1 := Lib.hid d1'
      have hb1 : b1 < wr.heap.size := Nat.lt_of_lt_of_le hb1' HB.out.size
      have HSUM := Lib.hid (Ref.sum_any ⟨t.toArray⟩ t (by simp) wr (HR.out.below HB.out) (by omega))
      clear ht hdr d1'
      go_wp2_with fail
      refine HSUM.out.mono ?_
      rintro e ws ⟨rfl, hbs⟩
      have HBS := Lib.hid (HB.out.trans (hbs.mono HB.out.size))
      obtain ⟨st, hst⟩ : ∃ st, st = sha t := ⟨_, rfl⟩
      rw [← hst]
      have HST := Lib.hid hst
      clear d1 hb1 hbs hst HSUM HB
      go_wp2_with fail
      go_loopw [9] (fun kv wr => ∃ k : Nat, k ≤ V.length ∧ kv = .int .i64 k ∧ Hid (Below w.heap.size w wr) ∧ Hid (∀ j, j < k → ((sha (V.getD j []) == sha t) && (V.getD j [] != t)) = false)) (fun kv _ => V.length - (intOf kv).toNat)
      case atStart => exact ⟨0, Nat.zero_le _, rfl, HBS, Lib.hid (fun j h => by omega)⟩
      case round =>
        obtain ⟨k, hk, rfl, HB2, HN⟩ := hrel
        by_cases hlk : k < V.length
        · have hlkI : (k : Int) < (V.length : Int) := by omega
          obtain ⟨b2, o2, rfl, hb2', d2'⟩ := str_at HBQ.out hlk
          have hxl := HVL.out (V.getD k []) (by rw [List.getD_eq_getElem?_getD, List.getElem?_eq_getElem hlk]; exact List.getElem_mem hlk)
          obtain ⟨x, hx⟩ : ∃ x, x = V.getD k [] := ⟨_, rfl⟩
          rw [← hx] at d2' hxl
          have HX := Lib.hid hx
          have d1 : wr.cell? ⟨b1, o1 + i, none⟩ = some (.string ⟨t.toArray⟩) := (Below.cell HB2.out hb1').trans HD1.out
          have d2 : wr.cell? ⟨b2, o2 + k, none⟩ = some (.string ⟨x.toArray⟩) := (Below.cell HB2.out hb2').trans d2'
          have hb1 : b1 < wr.heap.size := Nat.lt_of_lt_of_le hb1' HB2.out.size
          have hb2 : b2 < wr.heap.size := Nat.lt_of_lt_of_le hb2' HB2.out.size
          have HRB := Lib.hid (HR.out.below HB2.out)
          clear hx d2' hb2'
          cases hxt : (x == t) with
          | true =>
            have hxn : (x != t) = false := by unfold bne; rw [hxt]; rfl
            have HN2 : Hid (∀ j, j < k + 1 → ((sha (V.getD j []) == sha t) && (V.getD j [] != t)) = false) := Lib.hid (fun j hj => by
              by_cases hjk : j = k
              · subst hjk; rw [← HX.out, hxn, Bool.and_false]
              · exact HN.out j (by omega))
            go_wp2_with fail
            refine Rc.region (wr.heap.size) 18 [] [] (by kernel_rfl) (Nat.le_refl _) (by kernel_rfl) ?_; intro p; simp only [List.take, List.drop]
            iterate 3 (refine Rc.rK rfl rfl ?_; intro K hK; apply Exists.intro; refine ⟨?_, ?_⟩; (focus (intro x hx;  go_simp; (first | (fail) | ((try go_bits); (try go_simp); (try rfl))))); go_simp; refine hK _ ?_; clear hK K)
            iterate 1 (refine Rc.rK rfl rfl ?_; intro K hK; apply Exists.intro; refine ⟨?_, ?_⟩; (focus (intro x hx; have f1 := Rc.cell_le hx hb2 d2; go_simp; (first | (fail) | ((try go_bits); (try go_simp); (try rfl))))); go_simp; refine hK _ ?_; clear hK K)
            iterate 3 (refine Rc.rK rfl rfl ?_; intro K hK; apply Exists.intro; refine ⟨?_, ?_⟩; (focus (intro x hx;  go_simp; (first | (fail) | ((try go_bits); (try go_simp); (try rfl))))); go_simp; refine hK _ ?_; clear hK K)
            iterate 1 (refine Rc.rK rfl rfl ?_; intro K hK; apply Exists.intro; refine ⟨?_, ?_⟩; (focus (intro x hx; have f1 := Rc.cell_le hx hb1 d1; go_simp; (first | (fail) | ((try go_bits); (try go_simp); (try rfl))))); go_simp; refine hK _ ?_; clear hK K)
            iterate 2 (refine Rc.rK rfl rfl ?_; intro K hK; apply Exists.intro; refine ⟨?_, ?_⟩; (focus (intro x hx;  go_simp; (first | (fail) | ((try go_bits); (try go_simp); (try rfl))))); go_simp; refine hK _ ?_; clear hK K)
            iterate 7 (refine Rc.rSkip rfl rfl ?_; intro K hK; go_simp; refine hK _ ?_; clear hK K)
            iterate 1 (refine Rc.rK rfl rfl ?_; intro K hK; apply Exists.intro; refine ⟨?_, ?_⟩; (focus (intro x hx;  go_simp; (first | (fail) | ((try go_bits); (try go_simp); (try rfl))))); go_simp; refine hK _ ?_; clear hK K)
            refine Rc.done fun wz Fs hx hle hg => ?_
            have hbz := Rc.undrew hx
            have HBZ := Lib.hid (HB2.out.trans (hbz.mono HB2.out.size))
            have HAZ : Hid (wz.cell? ⟨b1, o1 + i, none⟩ = some (.string ⟨t.toArray⟩)) := Lib.hid (Rc.cell_le hx hb1 d1)
            have HCZ : Hid (wz.cell? ⟨b2, o2 + k, none⟩ = some (.string ⟨x.toArray⟩)) := Lib.hid (Rc.cell_le hx hb2 d2)
            have hz1 : b1 < wz.heap.size := Nat.lt_of_lt_of_le hb1 hbz.size
            have hz2 : b2 < wz.heap.size := Nat.lt_of_lt_of_le hb2 hbz.size
            clear hx hle hg hbz d1 d2
            go_wp2_with fail
            refine NoPanic.normal ?_
            go_wp2_with fail
            exact ⟨⟨k + 1, by omega, by go_num, HBZ, HN2⟩, by simp [intOf]; omega⟩
          | false =>
            have hxn : (x != t) = true := by unfold bne; rw [hxt]; rfl
            have HSX := Lib.hid (fun (y : World) (hy : Below wr.heap.size wr y) => Ref.sum_any ⟨x.toArray⟩ x (by simp) y (HRB.out.below hy) (by omega))
            obtain ⟨sx, hsx⟩ : ∃ sx, sx = sha x := ⟨_, rfl⟩
            rw [← hsx] at HSX
            have HSD := Lib.hid hsx
            clear hsx
            cases hss : (sx == st) with
            | true =>
              have HPK : Hid (pick V t = some k) := Lib.hid (pick_some hlk (by rw [← HX.out]; exact hxn) (by rw [← HX.out, ← HSD.out, ← HST.out]; exact hss) HN.out)
              have HE : Hid (findP V U = (t, x, true)) := Lib.hid (by
                rw [← HF.out]
                show (match pick V t with | some k => (t, V.getD k [], true) | none => findP V (U.drop (i + 1))) = _
                rw [HPK.out, HX.out])
              clear HPK
              go_wp2_with fail
              refine Rc.region (wr.heap.size) 18 [Rc.F 14 (fun _ => .string ⟨sx.toArray⟩) (fun _ _ _ => True)] [] (by kernel_rfl) (Nat.le_refl _) (by kernel_rfl) ?_; intro p; simp only [List.take, List.drop]
              iterate 3 (refine Rc.rK rfl rfl ?_; intro K hK; apply Exists.intro; refine ⟨?_, ?_⟩; (focus (intro x hx;  go_simp; (first | (fail) | ((try go_bits); (try go_simp); (try rfl))))); go_simp; refine hK _ ?_; clear hK K)
              iterate 1 (refine Rc.rK rfl rfl ?_; intro K hK; apply Exists.intro; refine ⟨?_, ?_⟩; (focus (intro x hx; have f1 := Rc.cell_le hx hb2 d2; go_simp; (first | (fail) | ((try go_bits); (try go_simp); (try rfl))))); go_simp; refine hK _ ?_; clear hK K)
              iterate 3 (refine Rc.rK rfl rfl ?_; intro K hK; apply Exists.intro; refine ⟨?_, ?_⟩; (focus (intro x hx;  go_simp; (first | (fail) | ((try go_bits); (try go_simp); (try rfl))))); go_simp; refine hK _ ?_; clear hK K)
              iterate 1 (refine Rc.rK rfl rfl ?_; intro K hK; apply Exists.intro; refine ⟨?_, ?_⟩; (focus (intro x hx; have f1 := Rc.cell_le hx hb1 d1; go_simp; (first | (fail) | ((try go_bits); (try go_simp); (try rfl))))); go_simp; refine hK _ ?_; clear hK K)
              iterate 2 (refine Rc.rK rfl rfl ?_; intro K hK; apply Exists.intro; refine ⟨?_, ?_⟩; (focus (intro x hx;  go_simp; (first | (fail) | ((try go_bits); (try go_simp); (try rfl))))); go_simp; refine hK _ ?_; clear hK K)
              iterate 3 (refine Rc.rK rfl rfl ?_; intro K hK; apply Exists.intro; refine ⟨?_, ?_⟩; (focus (intro x hx;  go_simp; (first | (fail) | ((try go_bits); (try go_simp); (try rfl))))); go_simp; refine hK _ ?_; clear hK K)
              iterate 1 (refine Rc.rK rfl rfl ?_; intro K hK; apply Exists.intro; refine ⟨?_, ?_⟩; (focus (intro x hx; have f1 := Rc.cell_le hx hb2 d2; go_simp; (first | (fail) | ((try go_bits); (try go_simp); (try rfl))))); go_simp; refine hK _ ?_; clear hK K)
              refine Rc.fK rfl rfl rfl rfl ?_ ?_
              · intro y Fs hy hle hg K hK
                refine unguard16 (by rfl) ?_
                have hck := HSX.out y (Rc.undrew hy)
                clear hy hg
                go_wp2_with fail
                refine hck.mono ?_
                rintro e z ⟨rfl, hb⟩
                go_wp2_with fail
                exact hK ⟨none, 0, undef⟩ z hb (fun _ _ _ _ => trivial)
              intro K hK; go_simp; refine hK _ ?_; clear hK K
              iterate 3 (refine Rc.rK rfl rfl ?_; intro K hK; apply Exists.intro; refine ⟨?_, ?_⟩; (focus (intro x hx;  go_simp; (first | (fail) | ((try go_bits); (try go_simp); (try rfl))))); go_simp; refine hK _ ?_; clear hK K)
              refine Rc.done fun wz Fs hx hle hg => ?_
              have hbz := Rc.undrew hx
              have HBZ := Lib.hid (HB2.out.trans (hbz.mono HB2.out.size))
              have HAZ : Hid (wz.cell? ⟨b1, o1 + i, none⟩ = some (.string ⟨t.toArray⟩)) := Lib.hid (Rc.cell_le hx hb1 d1)
              have HCZ : Hid (wz.cell? ⟨b2, o2 + k, none⟩ = some (.string ⟨x.toArray⟩)) := Lib.hid (Rc.cell_le hx hb2 d2)
              have hz1 : b1 < wz.heap.size := Nat.lt_of_lt_of_le hb1 hbz.size
              have hz2 : b2 < wz.heap.size := Nat.lt_of_lt_of_le hb2 hbz.size
              clear hx hle hg hbz d1 d2
              go_wp2_with fail
              refine NoPanic.normal ?_
              go_wp2_with fail
              refine Rc.region (wz.heap.size) 11 [] [] (by kernel_rfl) (Nat.le_refl _) (by kernel_rfl) ?_; intro p; simp only [List.take, List.drop]
              iterate 3 (refine Rc.rK rfl rfl ?_; intro K hK; apply Exists.intro; refine ⟨?_, ?_⟩; (focus (intro x hx;  go_simp; (first | (fail) | ((try go_bits); (try go_simp); (try rfl))))); go_simp; refine hK _ ?_; clear hK K)
              iterate 1 (refine Rc.rK rfl rfl ?_; intro K hK; apply Exists.intro; refine ⟨?_, ?_⟩; (focus (intro x hx; have f1 := Rc.cell_le hx hz1 HAZ.out; go_simp; (first | (fail) | ((try go_bits); (try go_simp); (try rfl))))); go_simp; refine hK _ ?_; clear hK K)
              iterate 3 (refine Rc.rK rfl rfl ?_; intro K hK; apply Exists.intro; refine ⟨?_, ?_⟩; (focus (intro x hx;  go_simp; (first | (fail) | ((try go_bits); (try go_simp); (try rfl))))); go_simp; refine hK _ ?_; clear hK K)
              iterate 1 (refine Rc.rK rfl rfl ?_; intro K hK; apply Exists.intro; refine ⟨?_, ?_⟩; (focus (intro x hx; have f1 := Rc.cell_le hx hz2 HCZ.out; go_simp; (first | (fail) | ((try go_bits); (try go_simp); (try rfl))))); go_simp; refine hK _ ?_; clear hK K)
              iterate 3 (refine Rc.rK rfl rfl ?_; intro K hK; apply Exists.intro; refine ⟨?_, ?_⟩; (focus (intro x hx;  go_simp; (first | (fail) | ((try go_bits); (try go_simp); (try rfl))))); go_simp; refine hK _ ?_; clear hK K)
              refine Rc.done fun wy Fs hx hle hg => ?_
              have HBY := Lib.hid (HBZ.out.trans ((Rc.undrew hx).mono HBZ.out.size))
              clear hx hle hg
              go_wp2_with fail
              refine NoPanic.normal ?_
              go_wp2_with fail
              go_ret3
              exact ⟨by rw [HE.out]; rfl, HBY.out⟩
            | false =>
              have HN2 : Hid (∀ j, j < k + 1 → ((sha (V.getD j []) == sha t) && (V.getD j [] != t)) = false) := Lib.hid (fun j hj => by
                by_cases hjk : j = k
                · subst hjk; rw [← HX.out, ← HSD.out, ← HST.out, hss, Bool.false_and]
                · exact HN.out j (by omega))
              go_wp2_with fail
              refine Rc.region (wr.heap.size) 18 [Rc.F 14 (fun _ => .string ⟨sx.toArray⟩) (fun _ _ _ => True)] [] (by kernel_rfl) (Nat.le_refl _) (by kernel_rfl) ?_; intro p; simp only [List.take, List.drop]
              iterate 3 (refine Rc.rK rfl rfl ?_; intro K hK; apply Exists.intro; refine ⟨?_, ?_⟩; (focus (intro x hx;  go_simp; (first | (fail) | ((try go_bits); (try go_simp); (try rfl))))); go_simp; refine hK _ ?_; clear hK K)
              iterate 1 (refine Rc.rK rfl rfl ?_; intro K hK; apply Exists.intro; refine ⟨?_, ?_⟩; (focus (intro x hx; have f1 := Rc.cell_le hx hb2 d2; go_simp; (first | (fail) | ((try go_bits); (try go_simp); (try rfl))))); go_simp; refine hK _ ?_; clear hK K)
              iterate 3 (refine Rc.rK rfl rfl ?_; intro K hK; apply Exists.intro; refine ⟨?_, ?_⟩; (focus (intro x hx;  go_simp; (first | (fail) | ((try go_bits); (try go_simp); (try rfl))))); go_simp; refine hK _ ?_; clear hK K)
              iterate 1 (refine Rc.rK rfl rfl ?_; intro K hK; apply Exists.intro; refine ⟨?_, ?_⟩; (focus (intro x hx; have f1 := Rc.cell_le hx hb1 d1; go_simp; (first | (fail) | ((try go_bits); (try go_simp); (try rfl))))); go_simp; refine hK _ ?_; clear hK K)
              iterate 2 (refine Rc.rK rfl rfl ?_; intro K hK; apply Exists.intro; refine ⟨?_, ?_⟩; (focus (intro x hx;  go_simp; (first | (fail) | ((try go_bits); (try go_simp); (try rfl))))); go_simp; refine hK _ ?_; clear hK K)
              iterate 3 (refine Rc.rK rfl rfl ?_; intro K hK; apply Exists.intro; refine ⟨?_, ?_⟩; (focus (intro x hx;  go_simp; (first | (fail) | ((try go_bits); (try go_simp); (try rfl))))); go_simp; refine hK _ ?_; clear hK K)
              iterate 1 (refine Rc.rK rfl rfl ?_; intro K hK; apply Exists.intro; refine ⟨?_, ?_⟩; (focus (intro x hx; have f1 := Rc.cell_le hx hb2 d2; go_simp; (first | (fail) | ((try go_bits); (try go_simp); (try rfl))))); go_simp; refine hK _ ?_; clear hK K)
              refine Rc.fK rfl rfl rfl rfl ?_ ?_
              · intro y Fs hy hle hg K hK
                refine unguard16 (by rfl) ?_
                have hck := HSX.out y (Rc.undrew hy)
                clear hy hg
                go_wp2_with fail
                refine hck.mono ?_
                rintro e z ⟨rfl, hb⟩
                go_wp2_with fail
                exact hK ⟨none, 0, undef⟩ z hb (fun _ _ _ _ => trivial)
              intro K hK; go_simp; refine hK _ ?_; clear hK K
              iterate 3 (refine Rc.rK rfl rfl ?_; intro K hK; apply Exists.intro; refine ⟨?_, ?_⟩; (focus (intro x hx;  go_simp; (first | (fail) | ((try go_bits); (try go_simp); (try rfl))))); go_simp; refine hK _ ?_; clear hK K)
              refine Rc.done fun wz Fs hx hle hg => ?_
              have hbz := Rc.undrew hx
              have HBZ := Lib.hid (HB2.out.trans (hbz.mono HB2.out.size))
              have HAZ : Hid (wz.cell? ⟨b1, o1 + i, none⟩ = some (.string ⟨t.toArray⟩)) := Lib.hid (Rc.cell_le hx hb1 d1)
              have HCZ : Hid (wz.cell? ⟨b2, o2 + k, none⟩ = some (.string ⟨x.toArray⟩)) := Lib.hid (Rc.cell_le hx hb2 d2)
              have hz1 : b1 < wz.heap.size := Nat.lt_of_lt_of_le hb1 hbz.size
              have hz2 : b2 < wz.heap.size := Nat.lt_of_lt_of_le hb2 hbz.size
              clear hx hle hg hbz d1 d2
              go_wp2_with fail
              refine NoPanic.normal ?_
              go_wp2_with fail
              exact ⟨⟨k + 1, by omega, by go_num, HBZ, HN2⟩, by simp [intOf]; omega⟩
        · have hlkI : ¬ (k : Int) < (V.length : Int) := by omega
          obtain rfl : k = V.length := by omega
          have HF2 : Hid (findP V (U.drop (i + 1)) = findP V U) := Lib.hid (by
            rw [← HF.out]
            show _ = (match pick V t with | some k => (t, V.getD k [], true) | none => findP V (U.drop (i + 1)))
            rw [pick_none HN.out])
          go_wp2_with fail
          exact ⟨⟨i + 1, by omega, by go_num, HB2, HF2⟩, by simp [intOf]; omega⟩
    · have hltI : ¬ (i : Int) < (U.length : Int) := by omega
      obtain rfl : i = U.length := by omega
      have HE : Hid (findP V U = ([], [], false)) := Lib.hid (by rw [← HF.out, List.drop_length]; rfl)
      go_wp2_with fail
      go_ret3
      exact ⟨by rw [HE.out]; rfl, HB.out⟩
end Fnd
end Go.Proofs.YtmkoiddfkanmiaaDoor

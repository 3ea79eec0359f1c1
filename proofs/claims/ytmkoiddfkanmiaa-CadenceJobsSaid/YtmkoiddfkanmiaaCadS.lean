/- The document's schedule: when one is due next; its tick. -/
import Derived.Test.YtmkoiddfkanmiaaCadR
namespace Go.Proofs.Ytmkoiddfkanmiaa
open Go.RowKit Bits Mem Sha
namespace Cad
theorem infoRefOneS (x : One) : (Try.prog.info? 49).map (·.size) = some (oneA x).toList.length := by
  show _ = some 3
  kernel_rfl
/-- One of the document's row, loaded. -/
theorem ref_load {w : World} {b off c : Nat} {L : List One} {k : Nat} {x : One} (h : Rd w 3 (.slice (some ⟨b, off, none⟩) L.length c) L.length (ones L)) (hx : L[k]? = some x) :
    (Instr.loadAt 49 (.pointer (some ⟨b, off + k * 3, none⟩))).run Try.prog w = .ok (.agg (oneA x)) w := by
  obtain ⟨b', off', he, _, _, _, hc⟩ := Rd_lt h (by have := (List.getElem?_eq_some_iff.1 hx).1; omega)
  cases he
  have := run_loadAt_mid (P := Try.prog) w b (off + k * 3) 49 (oneA x).toList _ (fun j u hu => by
    have hj := (List.getElem?_eq_some_iff.1 hu).1
    have hj3 : j < 3 := hj
    rw [Nat.add_assoc]
    exact hc _ u (by rw [ones_get L k x hx j hj3]; exact hu)) Try.underlying49 rfl (infoRefOneS x)
  simpa using this
set_option maxRecDepth 100000 in
set_option maxHeartbeats 4000000 in
theorem docnext_any (sb base : Nat) (q : Option Addr) (c : Nat) (now : Int) (L : List One) (id : List UInt8) (w : World) (h : DocAt w sb base q c now L) (hl : L.length ≤ 1000000) (hg : Good L) (hn : 0 ≤ now) (hn2 : now ≤ 9223372036854775807) :
    Calls Try.prog 20 #[.pointer (some ⟨sb, 0, none⟩), .string ⟨id.toArray⟩] w fun e w' => e = .returned (.tuple #[.int .i64 (nextD L now id).1, .int .i64 (nextD L now id).2]) ∧ Below w.heap.size w w' := by
  have HF := Lib.hid (docfind_any sb base q c now L id w h hl hg.srt)
  have HH := Lib.hid h
  have HE := Lib.hid hg.each
  obtain ⟨c0, c1, _, _⟩ := h.cells
  have hsl := (Array.getElem?_eq_some_iff.1 h.1).1
  clear h hg
  cases hf : has L id with
  | false =>
    have HV : Hid (nextD L now id = (0, 10)) := Lib.hid (nextD_none hf)
    have hfd : findD L id = -1 := by unfold findD; rw [if_neg (by rw [hf]; decide)]
    have HFD := Lib.hid hfd
    clear hf hfd
    go_enter Try.func20, Try.ntmps20
    go_wp2_with fail
    refine HF.out.mono ?_
    rintro e w2 ⟨rfl, rfl⟩
    rw [HFD.out]
    go_wp2_with fail
    go_ret2
    exact ⟨by rw [HV.out]; rfl, Below.refl _ _⟩
  | true =>
    obtain ⟨x, hx, hid⟩ := has_some hf
    clear hid
    have HN := Lib.hid (nextD_some (now := now) hf hx)
    obtain ⟨k, hk⟩ : ∃ k, k = place L id := ⟨_, rfl⟩
    have hfd : findD L id = (k : Int) := by unfold findD; rw [if_pos hf, hk]
    rw [← hk] at hx
    have hkl := (List.getElem?_eq_some_iff.1 hx).1
    have hkI : (k : Int) < (L.length : Int) := by omega
    obtain ⟨g, rfl⟩ := HH.out.2.2.some_of_lt (by omega)
    obtain ⟨p1, p2, p3, p4⟩ := HE.out x (List.mem_of_getElem? hx)
    obtain ⟨xi, pr, a⟩ := x
    have hld := ref_load (Rd.of_ow HH.out.2.2) hx
    rw [Nat.zero_add] at hld
    unfold oneA at hld
    have HLD := Lib.hid hld
    have HFD := Lib.hid hfd
    have p1 : 1 ≤ pr := p1
    have p2 : pr ≤ 1000 := p2
    have p3 : 0 ≤ a := p3
    have p4 : a ≤ 9223372036854775807 := p4
    have hp0 : ¬ pr = 0 := by omega
    have m1 : 0 ≤ a % pr := Int.emod_nonneg _ hp0
    have m2 : a % pr < pr := Int.emod_lt_of_pos _ (by omega)
    have m3 : 0 ≤ (9223372036854775807 : Int) % pr := Int.emod_nonneg _ hp0
    have m4 : (9223372036854775807 : Int) % pr < pr := Int.emod_lt_of_pos _ (by omega)
    obtain ⟨wl, hwl⟩ : ∃ wl, wl = w.alloc (.cells #[.string ⟨xi.toArray⟩, .int .i64 pr, .int .i64 a] 49) := ⟨_, rfl⟩
    have hrow : wl.heap[w.heap.size]? = some (.cells #[.string ⟨xi.toArray⟩, .int .i64 pr, .int .i64 a] 49 (0, 0)) := by rw [hwl]; exact heap_alloc_new w _
    have hbl : Below w.heap.size w wl := by rw [hwl]; exact (Below.refl w.heap.size w).alloc (Nat.le_refl _) _
    have hlt : w.heap.size < wl.heap.size := (Array.getElem?_eq_some_iff.1 hrow).1
    have d1 : wl.cell? ⟨w.heap.size, 1, none⟩ = some (.int .i64 pr) := (cell_of_row _ _ _ _ _ _ hrow).trans rfl
    have d2 : wl.cell? ⟨w.heap.size, 2, none⟩ = some (.int .i64 a) := (cell_of_row _ _ _ _ _ _ hrow).trans rfl
    have e0 : wl.cell? ⟨sb, 0, none⟩ = some (.int .i64 now) := (Below.cell hbl (p := ⟨sb, 0, none⟩) hsl).trans c0
    have hsl2 : sb < wl.heap.size := by omega
    have HWL := Lib.hid hwl
    have HBL := Lib.hid hbl
    obtain ⟨s, hs⟩ : ∃ s, s = w.heap.size := ⟨_, rfl⟩
    have HS := Lib.hid hs
    rw [← hs] at hlt d1 d2
    clear hx hld hk hf hfd hwl hbl hrow hs
    go_enter Try.func20, Try.ntmps20
    go_wp2_with fail
    refine HF.out.mono ?_
    rintro e w2 ⟨rfl, rfl⟩
    rw [HFD.out]
    go_wp2_with (refine l_load rfl _ _ rfl _ HLD.out ?_)
    rw [← HWL.out, ← HS.out]
    refine Rc.region (wl.heap.size) 9 [] [] (by kernel_rfl) (Nat.le_refl _) (by kernel_rfl) ?_; intro p; simp only [List.take, List.drop]
    iterate 9 (refine Rc.rK rfl rfl ?_; intro K hK; apply Exists.intro; refine ⟨?_, ?_⟩; (focus (intro x hx; have e1 := Rc.cell_le hx hlt d1; have e2 := Rc.cell_le hx hlt d2; go_simp; (first | (fail) | ((try go_bits); (try go_simp); (try rfl))))); go_simp; refine hK _ ?_; clear hK K)
    refine Rc.done fun wz Fs hx hle hg => ?_
    have hbz := Rc.undrew hx
    have s0 := Below.cell hbz (p := ⟨sb, 0, none⟩) hsl2 |>.trans e0
    have s1 := Below.cell hbz (p := ⟨s, 1, none⟩) hlt |>.trans d1
    have s2 := Below.cell hbz (p := ⟨s, 2, none⟩) hlt |>.trans d2
    have HBZ := Lib.hid (HBL.out.trans (hbz.mono HBL.out.size))
    clear hx hle hg hbz c0 e0 d1 d2 c1
    by_cases n1 : 9223372036854775807 - a < pr - a % pr
    · by_cases n3 : (9223372036854775807 : Int) % pr = 0
      · by_cases n4 : 1 ≤ 9223372036854775807 - a
        · by_cases n2 : 9223372036854775807 - now < 9223372036854775807 - a
          · have HV : Hid (nextD L now id = (0, 8)) := Lib.hid (by rw [HN.out]; unfold nextOne; rw [if_pos n1, if_pos n3, if_pos n4, if_pos n2])
            go_wp2_with fail
            refine NoPanic.normal ?_
            go_wp2_with fail
            go_ret2
            exact ⟨by rw [HV.out]; rfl, HBZ.out⟩
          · have HV : Hid (nextD L now id = (now + (9223372036854775807 - a), 0)) := Lib.hid (by rw [HN.out]; unfold nextOne; rw [if_pos n1, if_pos n3, if_pos n4, if_neg n2])
            go_wp2_with fail
            refine NoPanic.normal ?_
            go_wp2_with fail
            go_ret2
            exact ⟨by rw [HV.out]; rfl, HBZ.out⟩
        · by_cases n2 : 9223372036854775807 - now < 1
          · have HV : Hid (nextD L now id = (0, 8)) := Lib.hid (by rw [HN.out]; unfold nextOne; rw [if_pos n1, if_pos n3, if_neg n4, if_pos n2])
            go_wp2_with fail
            refine NoPanic.normal ?_
            go_wp2_with fail
            go_ret2
            exact ⟨by rw [HV.out]; rfl, HBZ.out⟩
          · have HV : Hid (nextD L now id = (now + 1, 0)) := Lib.hid (by rw [HN.out]; unfold nextOne; rw [if_pos n1, if_pos n3, if_neg n4, if_neg n2])
            go_wp2_with fail
            refine NoPanic.normal ?_
            go_wp2_with fail
            go_ret2
            exact ⟨by rw [HV.out]; rfl, HBZ.out⟩
      · have HV : Hid (nextD L now id = (0, 8)) := Lib.hid (by rw [HN.out]; unfold nextOne; rw [if_pos n1, if_neg n3])
        go_wp2_with fail
        refine NoPanic.normal ?_
        go_wp2_with fail
        go_ret2
        exact ⟨by rw [HV.out]; rfl, HBZ.out⟩
    · by_cases n2 : 9223372036854775807 - now < pr - a % pr
      · have HV : Hid (nextD L now id = (0, 8)) := Lib.hid (by rw [HN.out]; unfold nextOne; rw [if_neg n1, if_pos n2])
        go_wp2_with fail
        refine NoPanic.normal ?_
        go_wp2_with fail
        go_ret2
        exact ⟨by rw [HV.out]; rfl, HBZ.out⟩
      · have HV : Hid (nextD L now id = (now + (pr - a % pr), 0)) := Lib.hid (by rw [HN.out]; unfold nextOne; rw [if_neg n1, if_neg n2])
        go_wp2_with fail
        refine NoPanic.normal ?_
        go_wp2_with fail
        go_ret2
        exact ⟨by rw [HV.out]; rfl, HBZ.out⟩
end Cad
end Go.Proofs.Ytmkoiddfkanmiaa

/- The document's Remove, and its Add whole. -/
import Derived.Test.YtmkoiddfkanmiaaCadU
namespace Go.Proofs.Ytmkoiddfkanmiaa
open Go.RowKit Bits Mem Sha
namespace Cad
theorem docadd_any (sb base : Nat) (q : Option Addr) (c : Nat) (now p a : Int) (L : List One) (id : List UInt8) (w : World) (h : DocAt w sb base q c now L) (hl : L.length ≤ 1000000) (hm : Srt L) (hbs : base ≤ w.heap.size) :
    Calls Try.prog 16 #[.pointer (some ⟨sb, 0, none⟩), .string ⟨id.toArray⟩, .int .i64 p, .int .i64 a] w fun e w' => ∃ q' c', e = .returned (.int .i64 (addD L id p a).1) ∧ DocAt w' sb base q' c' now (addD L id p a).2 ∧ Kp (fun k => k = sb) w w' ∧ Grew w q c L.length q' (addD L id p a).2.length c' := by
  by_cases hb : p < 1 ∨ 1000 < p ∨ a < 0
  · have e1 : addD L id p a = (1, L) := if_pos hb
    rw [e1]
    refine (docadd_bad sb p a id w hb).mono ?_
    rintro e w' ⟨rfl, rfl⟩
    exact ⟨q, c, rfl, h, Kp.of_below (Below.refl _ _), fun k hk => .inl hk⟩
  · exact docadd_good sb base q c now p a L id w h hl hm hbs (by omega) (by omega) (by omega)
set_option maxRecDepth 100000 in
set_option maxHeartbeats 4000000 in
theorem docrem_any (sb base : Nat) (q : Option Addr) (c : Nat) (now : Int) (L : List One) (id : List UInt8) (wr : World) (h : DocAt wr sb base q c now L) (hl : L.length ≤ 1000000) (hm : Srt L) (hbs : base ≤ wr.heap.size) :
    Calls Try.prog 17 #[.pointer (some ⟨sb, 0, none⟩), .string ⟨id.toArray⟩] wr fun e w' => ∃ q' c', e = .returned (.int .i64 (remD L id).1) ∧ DocAt w' sb base q' c' now (remD L id).2 ∧ Kp (fun k => k = sb) wr w' ∧ Grew wr q c L.length q' (remD L id).2.length c' := by
  have HF := Lib.hid (docfind_any sb base q c now L id wr h hl hm)
  have HH := Lib.hid h
  obtain ⟨c0, c1, f0, f1⟩ := h.cells
  have hsl := (Array.getElem?_eq_some_iff.1 h.1).1
  have hsb := h.2.1
  clear h hm
  cases hf : has L id with
  | false =>
    have HV : Hid (remD L id = (10, L)) := Lib.hid (if_neg (by rw [hf]; decide))
    have hfd : findD L id = -1 := by unfold findD; rw [if_neg (by rw [hf]; decide)]
    have HFD := Lib.hid hfd
    clear hf hfd
    go_enter Try.func17, Try.ntmps17
    go_wp2_with fail
    refine HF.out.mono ?_
    rintro e w2 ⟨rfl, rfl⟩
    rw [HFD.out]
    go_wp2_with fail
    go_ret
    exact ⟨q, c, by rw [HV.out]; rfl, by rw [HV.out]; exact HH.out, Kp.of_below (Below.refl _ _), fun k hk => .inl (by rw [HV.out] at hk; exact hk)⟩
  | true =>
    obtain ⟨x, hx, _⟩ := has_some hf
    obtain ⟨i, hi0⟩ : ∃ i, i = place L id := ⟨_, rfl⟩
    have HV : Hid (remD L id = (0, L.take i ++ L.drop (i + 1))) := Lib.hid (by unfold remD; rw [if_pos hf, hi0])
    have hfd : findD L id = (i : Int) := by unfold findD; rw [if_pos hf, hi0]
    rw [← hi0] at hx
    have hi1 : i + 1 ≤ L.length := (List.getElem?_eq_some_iff.1 hx).1
    have hi : i ≤ L.length := by omega
    have HFD := Lib.hid hfd
    have hw1 : IntKind.i64.wrap ((i : Int) + 1) = ((i + 1 : Nat) : Int) := by rw [IntKind.wrap_i64]; omega
    have hiI : ¬ ((i : Int) < 0) := by omega
    clear hf hfd hi0 hx
    go_enter Try.func17, Try.ntmps17
    go_wp2_with fail
    refine HF.out.mono ?_
    rintro e w2 ⟨rfl, hw⟩
    obtain rfl : wr = w2 := hw.symm
    clear hw
    rw [HFD.out]
    go_wp2_with fail
    obtain ⟨i0, hi0, hz0, hz1, hz2⟩ := parts3C infoRef
    have hrd := Rd.of_ow HH.out.2.2
    obtain ⟨hnc, hcm, hqn, hqs⟩ := hrd.form
    obtain ⟨ql, hlow, hlr⟩ := low_any (P := Try.prog) 44 49 i0 Try.underlying44 hi0 q L.length c (i + 1) hi1 hnc hqn hqs
    rw [hz1] at hlr
    have HLOW := Lib.hid hlow
    have HTK : Hid (∀ x, Below wr.heap.size wr x → Rd x 3 (.slice q i c) i (ones (L.take i))) := Lib.hid (fun x hx => by rw [← ones_take]; exact (hrd.below hx).cut hi)
    have HDR : Hid (∀ x, Below wr.heap.size wr x → Rd x 3 (.slice ql (L.length - (i + 1)) (c - (i + 1))) (L.length - (i + 1)) (ones (L.drop (i + 1)))) := Lib.hid (fun x hx => by rw [← ones_drop]; exact hlr x _ (hrd.below hx))
    have hic : i ≤ c := by omega
    clear hrd hlow hlr hnc hcm hqn hqs
    refine Rc.region (wr.heap.size) 19 [Rc.F 1 (fun p => .slice p.q 0 0) (fun p F y => OwF F y wr.heap.size 49 3 (.slice p.q 0 0) 0 []), Rc.C 8 [1] [1] (fun p => .slice p.q i p.c) (fun p F y => OwF F y wr.heap.size 49 3 (.slice p.q i p.c) i (ones (L.take i))), Rc.C 16 [8] [8] (fun p => .slice p.q (i + (L.length - (i + 1))) p.c) (fun p F y => OwF F y wr.heap.size 49 3 (.slice p.q (i + (L.length - (i + 1))) p.c) (i + (L.length - (i + 1))) (ones (L.take i) ++ ones (L.drop (i + 1))))] [16] (by kernel_rfl) (Nat.le_refl _) (by kernel_rfl) ?_; intro p; simp only [List.take, List.drop]
    iterate 1 (refine Rc.rK rfl rfl ?_; intro K hK; apply Exists.intro; refine ⟨?_, ?_⟩; (focus (intro x hx;  go_simp; (first | (fail) | ((try go_bits); (try go_simp); (try rfl))))); go_simp; refine hK _ ?_; clear hK K)
    refine Rc.fK rfl rfl rfl rfl ?_ ?_
    · intro x Fs hx hle hg K hK
      go_wp2_with fail
      exact hK ⟨some ⟨x.heap.size, 0, none⟩, 0, undef⟩ _ ((Below.refl _ _).alloc (Nat.le_refl _) _) fun F y hF hy => OwF.fresh (w := x) (Ow.lit x #[] 49 3 0 x.heap.size (Nat.le_refl _) (Nat.zero_le _) rfl) hle hF hy
    intro K hK; go_simp; refine hK _ ?_; clear hK K
    iterate 5 (refine Rc.rK rfl rfl ?_; intro K hK; apply Exists.intro; refine ⟨?_, ?_⟩; (focus (intro x hx; have c1x := Rc.cell_le hx hsl c1; go_simp; (first | (fail) | ((try go_bits); (try go_simp); (try rfl))))); go_simp; refine hK _ ?_; clear hK K)
    refine Rc.r_cut rfl rfl 44 _ _ rfl 49 i0 Try.underlying44 hi0 q L.length c i rfl rfl hic ?_
    intro K hK; go_simp; refine hK _ ?_; clear hK K
    refine Rc.cK rfl rfl rfl ?_ ?_
    · intro x Fs hx hle hg K hK
      have HO : Hid (OwF (Fs 1) x wr.heap.size 49 3 (.slice (p 1).q 0 0) 0 []) := Lib.hid hg.1
      have hrl := HTK.out x (Rc.undrew hx)
      refine app_ow3 rfl _ _ 44 44 rfl wr.heap.size 49 i0 (.agg #[.string ⟨#[]⟩, .int .i64 0, .int .i64 0]) 3 32 Try.underlying44 hi0 hz0 hz1 hz2 (by rfl) _ 0 [] rfl HO.out.1 i _ rfl (Rd.src Try.underlying44 hrl (ones_one _)) (by unfold maxLen; omega) (by omega) hle ?_
      intro v' x' how hg' hor
      obtain ⟨q', c', rfl⟩ := Ow_form how
      rw [Nat.zero_add] at how hor ⊢
      go_wp2_with fail
      exact hK ⟨q', c', undef⟩ x' (HO.out.eff (by simp [Rc.C]) hg') (fun y hy => HO.out.next (by simp [Rc.C]) how hor hy)
    intro K hK; go_simp; refine hK _ ?_; clear hK K
    iterate 6 (refine Rc.rK rfl rfl ?_; intro K hK; apply Exists.intro; refine ⟨?_, ?_⟩; (focus (intro x hx; have c1x := Rc.cell_le hx hsl c1; go_simp; (first | (fail) | ((try go_bits); (try go_simp); (try rfl))))); go_simp; refine hK _ ?_; clear hK K)
    refine Rc.r_sl rfl rfl 44 _ _ rfl 49 Try.underlying44 _ _ _ rfl rfl HLOW.out ?_
    intro K hK; go_simp; refine hK _ ?_; clear hK K
    refine Rc.cK rfl rfl rfl ?_ ?_
    · intro x Fs hx hle hg K hK
      have HO : Hid (OwF (Fs 8) x wr.heap.size 49 3 (.slice (p 8).q i (p 8).c) i (ones (L.take i))) := Lib.hid hg.1
      have hrl := HDR.out x (Rc.undrew hx)
      refine app_ow3 rfl _ _ 44 44 rfl wr.heap.size 49 i0 (.agg #[.string ⟨#[]⟩, .int .i64 0, .int .i64 0]) 3 32 Try.underlying44 hi0 hz0 hz1 hz2 (by rfl) _ i _ rfl HO.out.1 (L.length - (i + 1)) _ rfl (Rd.src Try.underlying44 hrl (ones_one _)) (by unfold maxLen; omega) (by omega) hle ?_
      intro v' x' how hg' hor
      obtain ⟨q', c', rfl⟩ := Ow_form how
      go_wp2_with fail
      exact hK ⟨q', c', undef⟩ x' (HO.out.eff (by simp [Rc.C]) hg') (fun y hy => HO.out.next (by simp [Rc.C]) how hor hy)
    intro K hK; go_simp; refine hK _ ?_; clear hK K
    iterate 2 (refine Rc.rK rfl rfl ?_; intro K hK; apply Exists.intro; refine ⟨?_, ?_⟩; (focus (intro x hx;  go_simp; (first | (fail) | ((try go_bits); (try go_simp); (try rfl))))); go_simp; refine hK _ ?_; clear hK K)
    refine Rc.done fun x Fs hx hle hg => ?_
    obtain ⟨q2, hq2⟩ : ∃ q2, q2 = (p 16).q := ⟨_, rfl⟩
    obtain ⟨c2, hc2⟩ : ∃ c2, c2 = (p 16).c := ⟨_, rfl⟩
    have hfa : OwF (Fs 16) x wr.heap.size 49 3 (.slice (p 16).q (i + (L.length - (i + 1))) (p 16).c) (i + (L.length - (i + 1))) (ones (L.take i) ++ ones (L.drop (i + 1))) := hg.1
    rw [← hq2, ← hc2] at hfa ⊢
    have hbx := Rc.undrew hx
    have hrx := (hbx.block sb hsl).trans HH.out.1
    have f1x : x.frozen? ⟨sb, 1, none⟩ = false := by simp [World.frozen?, hrx]
    have hslx : sb < x.heap.size := (Array.getElem?_eq_some_iff.1 hrx).1
    have d1x : x.cell? ⟨sb, 1, none⟩ = some (.slice q L.length c) := (cell_of_row _ _ _ _ _ _ hrx).trans rfl
    have hln : i + (L.length - (i + 1)) = (L.take i ++ L.drop (i + 1)).length := by simp; omega
    have hcells : ones (L.take i) ++ ones (L.drop (i + 1)) = ones (L.take i ++ L.drop (i + 1)) := by rw [ones_append]
    have hfo := hfa.1
    rw [hln, hcells] at hfo
    rw [hln]
    obtain ⟨M, hM⟩ : ∃ M, M = L.take i ++ L.drop (i + 1) := ⟨_, rfl⟩
    rw [← hM] at hfo ⊢
    obtain ⟨w4, hw4⟩ : ∃ w4, w4 = x.setCell ⟨sb, 1, none⟩ (.slice q2 M.length c2) := ⟨_, rfl⟩
    have hr4 : w4.heap[sb]? = some (.cells #[.int .i64 now, .slice q2 M.length c2] 46 (0, 0)) := by
      rw [hw4, setCell_eq_setRow x sb 1 _ _ _ _ hrx]
      exact setRow_heap x sb _ _ _ _ hrx
    have hg4 : x.grownBy w4 (some sb) := by rw [hw4]; exact grown_setCell _ _ _ _
    have ho4 := (hfo.kp (Kp.of_grown hg4) (fun j hj e => by cases e; have := (hfo.lt sb hj).1; omega)).base_le hbs
    have HK4 : Hid (Kp (fun k => k = sb) wr w4) := Lib.hid ((Kp.of_below hbx).trans ((Kp.of_grown hg4).weak (fun k hk => by cases hk; rfl)) (fun _ _ h => h))
    have HS4 : Hid (DocAt w4 sb base q2 c2 now M) := Lib.hid ⟨hr4, hsb, ho4⟩
    have HGR : Hid (Grew wr q c L.length q2 M.length c2) := Lib.hid (fun k hk => .inr (hfo.lt k hk).1)
    have HW4 := Lib.hid hw4
    have HME := Lib.hid hM
    clear hq2 hc2 hfa hx hle hg hbx hrx hln hcells hfo hM hw4 hr4 hg4 ho4
    go_wp2_with (rw [← HW4.out])
    refine NoPanic.normal ?_
    go_wp2_with fail
    go_ret
    exact ⟨q2, c2, by rw [HV.out]; rfl, by rw [HV.out, ← HME.out]; exact HS4.out, HK4.out, by rw [HV.out, ← HME.out]; exact HGR.out⟩
end Cad
end Go.Proofs.Ytmkoiddfkanmiaa

/- The walk of the schedule's Next, on a schedule of one. -/
import Derived.Test.YtmkoiddfkanmiaaCadF
namespace Go.Proofs.Ytmkoiddfkanmiaa
open Go.RowKit Bits Mem Sha
namespace Cad
theorem mono_one (x : One) : Mono [x] x.id := by
  intro i j a b hij ha hb h
  have hi := (List.getElem?_eq_some_iff.1 ha).1
  have hj := (List.getElem?_eq_some_iff.1 hb).1
  have h1 : i = 0 := by simp at hi; omega
  have h2 : j = 0 := by simp at hj; omega
  subst h1 h2
  rw [ha] at hb
  cases hb
  exact h
theorem stands_one {x : One} {n : Nat} (hs : cmpB x.id x.id = 0) (h : Stands [x] x.id n) : n = 0 := by
  rcases Nat.eq_zero_or_pos n with h0 | h0
  · exact h0
  · have := h.low 0 x h0 rfl
    omega
theorem found_one {x : One} (hs : cmpB x.id x.id = 0) : foundAt [x] x.id 0 = true := by
  show decide (cmpB x.id x.id = 0) = true
  rw [hs]; rfl
set_option maxRecDepth 100000 in
set_option maxHeartbeats 2000000 in
theorem next_one (sb base : Nat) (q : Option Addr) (c : Nat) (now : Int) (x : One) (w : World) (h : SchedAt w sb base q c now [x]) (hs : cmpB x.id x.id = 0) (hp1 : 1 ≤ x.period) (hp2 : x.period ≤ 1000) (ha : 0 ≤ x.age) (ha2 : x.age ≤ 1000000) (hn : 0 ≤ now) (hn2 : now ≤ 1000000) :
    Calls Try.prog 9 #[.pointer (some ⟨sb, 0, none⟩), .string ⟨x.id.toArray⟩] w fun e w' => e = .returned (.tuple #[.int .i64 (now + (x.period - x.age % x.period)), .int .i64 0]) ∧ Below w.heap.size w w' := by
  have HG := Lib.hid (get_any sb base q c now [x] x.id w h (by simp) (mono_one x))
  have HH := Lib.hid h
  have HSF := Lib.hid hs
  clear h hs
  go_enter Try.func9, Try.ntmps9
  go_wp2_with fail
  refine HG.out.mono ?_
  rintro e w2 ⟨⟨n, hst, hor⟩, hb⟩
  have hn0 := stands_one HSF.out hst
  subst hn0
  rcases hor with ⟨_, g, rfl, rfl⟩ | ⟨hf, _⟩
  case inr => rw [found_one HSF.out] at hf; cases hf
  have H2 := Lib.hid (HH.out.below hb)
  have HB2 := Lib.hid hb
  obtain ⟨r0, r1, r2, _, _⟩ := row_cells (k := 0) (L := [x]) (x := x) H2.out.2.2 rfl rfl
  obtain ⟨c0, c1, f0, f1⟩ := H2.out.cells
  have hgl := (H2.out.2.2.lt g rfl).2
  have hsl := (Array.getElem?_eq_some_iff.1 H2.out.1).1
  have hp0 : ¬ x.period = 0 := by omega
  have m1 : 0 ≤ x.age % x.period := Int.emod_nonneg _ hp0
  have m2 : x.age % x.period < x.period := Int.emod_lt_of_pos _ (by omega)
  simp only [Nat.zero_mul, Nat.zero_add] at r0 r1 r2
  clear hb hst
  go_wp2_with fail
  refine Rc.region (w2.heap.size) 15 [] [] (by kernel_rfl) (Nat.le_refl _) (by kernel_rfl) ?_; intro p; simp only [List.take, List.drop]
  iterate 15 (refine Rc.rK rfl rfl ?_; intro K hK; apply Exists.intro; refine ⟨?_, ?_⟩; (focus (intro x hx; have e1 := Rc.cell_le hx hgl r1; have e2 := Rc.cell_le hx hgl r2; go_simp; (first | (fail) | ((try go_bits); (try go_simp); (try rfl))))); go_simp; refine hK _ ?_; clear hK K)
  refine Rc.done fun wz Fs hx hle hg => ?_
  have hbz := Rc.undrew hx
  have s0 := Below.cell hbz (p := ⟨sb, 0, none⟩) hsl |>.trans c0
  have s1 := Below.cell hbz (p := ⟨g, 1, none⟩) hgl |>.trans r1
  have s2 := Below.cell hbz (p := ⟨g, 2, none⟩) hgl |>.trans r2
  have HBZ := Lib.hid (HB2.out.trans (hbz.mono HB2.out.size))
  have n1 : (9223372036854775807 - x.age < x.period - x.age % x.period) = False := by simp; omega
  have n2 : (9223372036854775807 - now < x.period - x.age % x.period) = False := by simp; omega
  clear hx hle hg hbz c0 r1 r2 r0 f0 f1 c1
  go_wp2_with fail
  refine NoPanic.normal ?_
  go_wp2_with fail
  go_ret2
  exact ⟨rfl, HBZ.out⟩
end Cad
end Go.Proofs.Ytmkoiddfkanmiaa

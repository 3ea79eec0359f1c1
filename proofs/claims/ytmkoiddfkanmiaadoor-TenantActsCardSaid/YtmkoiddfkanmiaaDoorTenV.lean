/- TenantActs: what is asked of table and document behind each act. -/
import Derived.Test.YtmkoiddfkanmiaaDoorGTenS
namespace Go.Proofs.YtmkoiddfkanmiaaDoor
open Go.RowKit Bits Mem Sha Cad
namespace Ten
open Pc
theorem get_true (L : List Ten) (id : List UInt8) : (getT L id true).2 = missT L id := by
  unfold getT missT
  cases theT L id with
  | none => rfl
  | some x =>
    by_cases h3 : x.state = 3
    · simp only [if_pos h3]
    · simp [h3]
theorem place_get {L : List Ten} {n : Nat} (h : OkT L n) (id : List UInt8) : (placeT L id).2 = getC (L.map core) id true := by
  rw [getC_core h, get_true, (place_core id).1]
theorem place_at {L : List Ten} {id : List UInt8} (h : (placeT L id).2 = 0) : ∃ x, (L.map core)[place (L.map core) id]? = some x ∧ findD (L.map core) id = (place (L.map core) id : Int) ∧ x.age = (placeT L id).1 := by
  unfold placeT at h ⊢
  cases ht : theT L id with
  | none => rw [ht] at h; exact absurd h (by decide)
  | some x =>
    rw [ht] at h
    obtain ⟨hh, hx⟩ := theT_mem ht
    refine ⟨core x, by rw [List.getElem?_map, hx]; rfl, by unfold findD; rw [if_pos hh], ?_⟩
    by_cases h3 : x.state = 3
    · simp only [if_pos h3] at h; exact absurd h (by decide)
    · simp only [if_neg h3]; rfl
set_option maxRecDepth 100000 in
theorem dir_none : ∀ w : World, (binOp .neq 48 (.pointer none) (.pointer none)).run Tryd.prog w = .ok (.bool false) w := fun _ => rfl
set_option maxRecDepth 100000 in
theorem dir_some (g : Nat) : ∀ w : World, (binOp .neq 48 (.pointer (some ⟨g, 0, none⟩)) (.pointer none)).run Tryd.prog w = .ok (.bool true) w := fun _ => rfl
set_option maxRecDepth 100000 in
set_option maxHeartbeats 8000000 in
theorem asks_any (g : Nat → Value) (Q : Exit → Go.Act → World → Prop) (w0 w : World) (n S i m : Nat) (I : List UInt8) (q : Option Addr) (jn c : Nat) (qa qd : Option Addr) (ca cd : Nat) (L : List Ten) (d : Option Addr) (e pl f : Int)
    (hll : L.length ≤ m) (hm : m ≤ 100) (hp : PairT w0 w S n qa ca L qd cd (L.map core)) (hok : OkT L n) (hIl : I.length ≤ 20)
    (hde : (∃ gd : Nat, d = some ⟨gd, 0, none⟩ ∧ e = 0) ∨ (d = none ∧ ¬ e = 0)) (hpf : (pl, f) = placeT L I)
    (h0 : g 0 = .int .i64 n) (h1 : g 1 = .slice q jn c) (h15 : g 15 = .pointer (some ⟨S, 0, none⟩)) (h16 : g 16 = .pointer (some ⟨S + 1, 0, none⟩)) (h17 : g 17 = .int .i64 i)
    (h20 : g 20 = .string ⟨I.toArray⟩) (h34 : g 34 = .pointer d) (h35 : g 35 = .int .i64 e) (h36 : g 36 = .int .i64 pl) (h37 : g 37 = .int .i64 f) (h39 : g 39 = .int .i64 e)
    (hN : ∀ l w', FrR l n q jn c S i → l[355]? = some (.bool false) → PairT w0 w' S n qa ca L qd cd (L.map core) → Q .normal ⟨l.toArray, []⟩ w') :
    asksA.wp Tryd.prog Q (fr 415 g) w := by
  have HN := Lib.hid hN
  have HP := Lib.hid hp
  have HG := Lib.hid hok
  have hfe : getC (L.map core) I true = f := by rw [← place_get hok I, ← hpf]
  obtain ⟨st, hst⟩ : ∃ st, st = stateT L I := ⟨_, rfl⟩
  have HST : Hid (stateT L I = st) := Lib.hid hst.symm
  have HSC : Hid (stateC (L.map core) I = st) := Lib.hid (by rw [stateC_core]; exact hst.symm)
  have HFE := Lib.hid hfe
  have HPF := Lib.hid hpf
  clear hN hp hok hfe hst hpf
  rw [fr415, h0, h1, h15, h16, h17, h20, h34, h35, h36, h37, h39]
  clear h0 h1 h15 h16 h17 h20 h34 h35 h36 h37 h39
  conv => arg 2; whnf
  obtain ⟨β, hβ, heβ⟩ : ∃ β : Bool, (∀ x : World, (binOp .neq 48 (.pointer d) (.pointer none)).run Tryd.prog x = .ok (.bool β) x) ∧ (e == 0) = β := by
    rcases hde with ⟨gd, rfl, rfl⟩ | ⟨rfl, hne⟩
    · exact ⟨true, dir_some gd, rfl⟩
    · exact ⟨false, dir_none, by rw [beq_eq_false_iff_ne]; exact hne⟩
  clear hde
  by_cases hf : f = 0
  · subst hf
    obtain ⟨x, hx, hfd, hage⟩ := place_at (L := L) (id := I) (by rw [← HPF.out])
    rw [← HPF.out] at hage
    obtain ⟨k, hk⟩ : ∃ k, k = place (L.map core) I := ⟨_, rfl⟩
    rw [← hk] at hx hfd
    obtain ⟨xi, xs, xa⟩ := x
    obtain rfl : xa = pl := hage
    have HFD := Lib.hid hfd
    have hkl := (List.getElem?_eq_some_iff.1 hx).1
    rw [List.length_map] at hkl
    have hkL : (k : Int) < (L.length : Int) := by omega
    obtain ⟨gq, rfl⟩ := HP.out.d.2.2.some_of_lt (by rw [List.length_map]; omega)
    obtain ⟨_, _, r2, _, _⟩ := row_cellsE HP.out.d.2.2 rfl hx
    have hgl := (HP.out.d.2.2.lt gq rfl).2
    obtain ⟨c0, c1, _, _⟩ := HP.out.d.cells
    have hsl := (Array.getElem?_eq_some_iff.1 HP.out.d.1).1
    rw [List.length_map] at c1
    clear hx hfd hk
    go_wp2_with fail
    refine Rc.region (w.heap.size) 45 [Rc.F 13 (fun p => .slice p.q I.length p.c) (fun p _ y => Rd y 1 (.slice p.q I.length p.c) I.length (bys I)), Rc.G 14 [13] (fun _ => .int .i64 st) (fun _ _ _ => True), Rc.F 17 (fun _ => .int .i64 st) (fun _ _ _ => True), Rc.F 24 (fun _ => .int .i64 0) (fun _ _ _ => True), Rc.F 38 (fun _ => .int .i64 (k : Int)) (fun _ _ _ => True)] [] (by kernel_rfl) (Nat.le_refl _) (by kernel_rfl) ?_; intro p; simp only [List.take, List.drop]
    iterate 13 (refine Rc.rK rfl rfl ?_; intro K hK; apply Exists.intro; refine ⟨?_, ?_⟩; (focus (intro x hx;  go_simp; (first | (fail) | ((try go_bits); (try go_simp); (try rfl))))); go_simp; refine hK _ ?_; clear hK K)
    refine Rc.fK rfl rfl rfl rfl ?_ ?_
    · intro x Fs hx hle hg K hK
      refine unguard16 (by rfl) ?_
      refine conv_bytes rfl 9 24 _ rfl 5 Tryd.underlying9 Tryd.underlying24 Tryd.underlying5 ⟨I.toArray⟩ rfl x.heap.size (Nat.le_refl _) (by show I.length ≤ maxLen; unfold maxLen; omega) ?_
      intro v x' how hb
      have how : Ow x' x.heap.size 5 1 v I.length (bys I) := how
      obtain ⟨q', c', rfl⟩ := Ow_form how
      go_wp2_with fail
      exact hK ⟨q', c', undef⟩ x' hb (fun F y hF hy => (Rd.of_ow how).keeps hy (fun k hk => .inr (hF k (how.lt k hk).1 (how.lt k hk).2)))
    intro K hK; go_simp; refine hK _ ?_; clear hK K
    refine Rc.fK rfl rfl rfl rfl ?_ ?_
    · intro x Fs hx hle hg K hK
      refine unguard16 (by rfl) ?_
      have hbx := Rc.undrew hx
      have hck := (HST.out ▸ stateT_any S (S + 2) qa ca (n : Int) L (p 13).q (p 13).c I x (HP.out.a.below hbx) (by omega) HG.out.srt hg.1 : Calls Tryd.prog 20 #[.pointer (some ⟨S, 0, none⟩), .slice (p 13).q I.length (p 13).c] x fun e w' => e = .returned (.int .i64 st) ∧ Below x.heap.size x w')
      clear hg hle hx hbx
      go_wp2_with fail
      refine hck.mono ?_
      rintro e x' ⟨rfl, hb⟩
      go_wp2_with fail
      exact hK ⟨none, 0, undef⟩ x' hb (fun _ _ _ _ => trivial)
    intro K hK; go_simp; refine hK _ ?_; clear hK K
    iterate 2 (refine Rc.rK rfl rfl ?_; intro K hK; apply Exists.intro; refine ⟨?_, ?_⟩; (focus (intro x hx;  go_simp; (first | (fail) | ((try go_bits); (try go_simp); (try rfl))))); go_simp; refine hK _ ?_; clear hK K)
    refine Rc.fK rfl rfl rfl rfl ?_ ?_
    · intro x Fs hx hle hg K hK
      refine unguard16 (by rfl) ?_
      have hbx := Rc.undrew hx
      have hck := (HSC.out ▸ (stateR_any (S + 1) (S + 2) (some ⟨gq, 0, none⟩) cd (n : Int) (L.map core) I x (HP.out.d.below hbx) (by rw [List.length_map]; omega) HG.out.srt).mono (fun _ _ h => ⟨h.1, by rw [h.2]; exact Below.refl _ _⟩) : Calls Tryd.prog 32 #[.pointer (some ⟨S + 1, 0, none⟩), .string ⟨I.toArray⟩] x fun e w' => e = .returned (.int .i64 st) ∧ Below x.heap.size x w')
      clear hg hle hx hbx
      go_wp2_with fail
      refine hck.mono ?_
      rintro e x' ⟨rfl, hb⟩
      go_wp2_with fail
      exact hK ⟨none, 0, undef⟩ x' hb (fun _ _ _ _ => trivial)
    intro K hK; go_simp; refine hK _ ?_; clear hK K
    iterate 6 (refine Rc.rK rfl rfl ?_; intro K hK; apply Exists.intro; refine ⟨?_, ?_⟩; (focus (intro x hx;  go_simp; (first | (fail) | ((try go_bits); (try go_simp); (try rfl))))); go_simp; refine hK _ ?_; clear hK K)
    refine Rc.fK rfl rfl rfl rfl ?_ ?_
    · intro x Fs hx hle hg K hK
      refine unguard16 (by rfl) ?_
      have hbx := Rc.undrew hx
      have hck := (HFE.out ▸ (getR_any (S + 1) (S + 2) (some ⟨gq, 0, none⟩) cd (n : Int) (L.map core) I true x (HP.out.d.below hbx) (by rw [List.length_map]; omega) HG.out.srt).mono (fun _ _ h => ⟨h.1, by rw [h.2]; exact Below.refl _ _⟩) : Calls Tryd.prog 31 #[.pointer (some ⟨S + 1, 0, none⟩), .string ⟨I.toArray⟩, .bool true] x fun e w' => e = .returned (.int .i64 0) ∧ Below x.heap.size x w')
      clear hg hle hx hbx
      go_wp2_with fail
      refine hck.mono ?_
      rintro e x' ⟨rfl, hb⟩
      go_wp2_with fail
      exact hK ⟨none, 0, undef⟩ x' hb (fun _ _ _ _ => trivial)
    intro K hK; go_simp; refine hK _ ?_; clear hK K
    iterate 6 (refine Rc.rK rfl rfl ?_; intro K hK; apply Exists.intro; refine ⟨?_, ?_⟩; (focus (intro x hx;  go_simp; (first | (fail) | ((try go_bits); (try go_simp); (try rfl))))); go_simp; refine hK _ ?_; clear hK K)
    iterate 4 (refine Rc.rK rfl rfl ?_; intro K hK; apply Exists.intro; refine ⟨?_, ?_⟩; (focus (intro x hx;  go_simp; (first | (fail) | ((try go_bits); (try go_simp); (try rfl))))); go_simp; refine hK _ ?_; clear hK K)
    iterate 1 (refine Rc.rK rfl rfl ?_; intro K hK; apply Exists.intro; refine ⟨?_, ?_⟩; (focus (intro x hx; have d1 := Rc.cell_le hx hsl c1; go_simp; (first | (fail) | ((try go_bits); (try go_simp); (try rfl))))); go_simp; refine hK _ ?_; clear hK K)
    iterate 2 (refine Rc.rK rfl rfl ?_; intro K hK; apply Exists.intro; refine ⟨?_, ?_⟩; (focus (intro x hx;  go_simp; (first | (fail) | ((try go_bits); (try go_simp); (try rfl))))); go_simp; refine hK _ ?_; clear hK K)
    refine Rc.fK rfl rfl rfl rfl ?_ ?_
    · intro x Fs hx hle hg K hK
      refine unguard16 (by rfl) ?_
      have hbx := Rc.undrew hx
      have hck := (HFD.out ▸ (findR_any (S + 1) (S + 2) (some ⟨gq, 0, none⟩) cd (n : Int) (L.map core) I x (HP.out.d.below hbx) (by rw [List.length_map]; omega) HG.out.srt).mono (fun _ _ h => ⟨h.1, by rw [h.2]; exact Below.refl _ _⟩) : Calls Tryd.prog 33 #[.pointer (some ⟨S + 1, 0, none⟩), .string ⟨I.toArray⟩] x fun e w' => e = .returned (.int .i64 (k : Int)) ∧ Below x.heap.size x w')
      clear hg hle hx hbx
      go_wp2_with fail
      refine hck.mono ?_
      rintro e x' ⟨rfl, hb⟩
      go_wp2_with fail
      exact hK ⟨none, 0, undef⟩ x' hb (fun _ _ _ _ => trivial)
    intro K hK; go_simp; refine hK _ ?_; clear hK K
    iterate 2 (refine Rc.rK rfl rfl ?_; intro K hK; apply Exists.intro; refine ⟨?_, ?_⟩; (focus (intro x hx;  go_simp; (first | (fail) | ((try go_bits); (try go_simp); (try rfl))))); go_simp; refine hK _ ?_; clear hK K)
    iterate 1 (refine Rc.rK rfl rfl ?_; intro K hK; apply Exists.intro; refine ⟨?_, ?_⟩; (focus (intro x hx; have d2 := Rc.cell_le hx hgl r2; go_simp; (first | (fail) | ((try go_bits); (try go_simp); (try rfl))))); go_simp; refine hK _ ?_; clear hK K)
    iterate 1 (refine Rc.rK rfl rfl ?_; intro K hK; apply Exists.intro; refine ⟨?_, ?_⟩; (focus (intro x hx;  go_simp; (first | (fail) | ((try go_bits); (try go_simp); (try rfl))))); go_simp; refine hK _ ?_; clear hK K)
    iterate 2 (refine Rc.rK rfl rfl ?_; intro K hK; apply Exists.intro; refine ⟨?_, ?_⟩; (focus (intro x hx;  go_simp; (first | (fail) | ((try go_bits); (try go_simp); (try rfl))))); go_simp; refine hK _ ?_; clear hK K)
    refine Rc.done fun wz Fs hx hle hg => ?_
    have hbz := Rc.undrew hx
    have HPZ := Lib.hid (HP.out.below hbz)
    clear hx hle hg hbz
    go_wp2_with fail
    refine NoPanic.normal ?_
    exact HN.out _ _ ⟨by kernel_rfl, rfl, rfl, rfl, rfl, rfl⟩ rfl HPZ.out
  · have hfb : (f == 0) = false := by rw [beq_eq_false_iff_ne]; exact hf
    go_wp2_with fail
    refine Rc.region (w.heap.size) 45 [Rc.F 13 (fun p => .slice p.q I.length p.c) (fun p _ y => Rd y 1 (.slice p.q I.length p.c) I.length (bys I)), Rc.G 14 [13] (fun _ => .int .i64 st) (fun _ _ _ => True), Rc.F 17 (fun _ => .int .i64 st) (fun _ _ _ => True), Rc.F 24 (fun _ => .int .i64 f) (fun _ _ _ => True)] [] (by kernel_rfl) (Nat.le_refl _) (by kernel_rfl) ?_; intro p; simp only [List.take, List.drop]
    iterate 13 (refine Rc.rK rfl rfl ?_; intro K hK; apply Exists.intro; refine ⟨?_, ?_⟩; (focus (intro x hx;  go_simp; (first | (fail) | ((try go_bits); (try go_simp); (try rfl))))); go_simp; refine hK _ ?_; clear hK K)
    refine Rc.fK rfl rfl rfl rfl ?_ ?_
    · intro x Fs hx hle hg K hK
      refine unguard16 (by rfl) ?_
      refine conv_bytes rfl 9 24 _ rfl 5 Tryd.underlying9 Tryd.underlying24 Tryd.underlying5 ⟨I.toArray⟩ rfl x.heap.size (Nat.le_refl _) (by show I.length ≤ maxLen; unfold maxLen; omega) ?_
      intro v x' how hb
      have how : Ow x' x.heap.size 5 1 v I.length (bys I) := how
      obtain ⟨q', c', rfl⟩ := Ow_form how
      go_wp2_with fail
      exact hK ⟨q', c', undef⟩ x' hb (fun F y hF hy => (Rd.of_ow how).keeps hy (fun k hk => .inr (hF k (how.lt k hk).1 (how.lt k hk).2)))
    intro K hK; go_simp; refine hK _ ?_; clear hK K
    refine Rc.fK rfl rfl rfl rfl ?_ ?_
    · intro x Fs hx hle hg K hK
      refine unguard16 (by rfl) ?_
      have hbx := Rc.undrew hx
      have hck := (HST.out ▸ stateT_any S (S + 2) qa ca (n : Int) L (p 13).q (p 13).c I x (HP.out.a.below hbx) (by omega) HG.out.srt hg.1 : Calls Tryd.prog 20 #[.pointer (some ⟨S, 0, none⟩), .slice (p 13).q I.length (p 13).c] x fun e w' => e = .returned (.int .i64 st) ∧ Below x.heap.size x w')
      clear hg hle hx hbx
      go_wp2_with fail
      refine hck.mono ?_
      rintro e x' ⟨rfl, hb⟩
      go_wp2_with fail
      exact hK ⟨none, 0, undef⟩ x' hb (fun _ _ _ _ => trivial)
    intro K hK; go_simp; refine hK _ ?_; clear hK K
    iterate 2 (refine Rc.rK rfl rfl ?_; intro K hK; apply Exists.intro; refine ⟨?_, ?_⟩; (focus (intro x hx;  go_simp; (first | (fail) | ((try go_bits); (try go_simp); (try rfl))))); go_simp; refine hK _ ?_; clear hK K)
    refine Rc.fK rfl rfl rfl rfl ?_ ?_
    · intro x Fs hx hle hg K hK
      refine unguard16 (by rfl) ?_
      have hbx := Rc.undrew hx
      have hck := (HSC.out ▸ (stateR_any (S + 1) (S + 2) qd cd (n : Int) (L.map core) I x (HP.out.d.below hbx) (by rw [List.length_map]; omega) HG.out.srt).mono (fun _ _ h => ⟨h.1, by rw [h.2]; exact Below.refl _ _⟩) : Calls Tryd.prog 32 #[.pointer (some ⟨S + 1, 0, none⟩), .string ⟨I.toArray⟩] x fun e w' => e = .returned (.int .i64 st) ∧ Below x.heap.size x w')
      clear hg hle hx hbx
      go_wp2_with fail
      refine hck.mono ?_
      rintro e x' ⟨rfl, hb⟩
      go_wp2_with fail
      exact hK ⟨none, 0, undef⟩ x' hb (fun _ _ _ _ => trivial)
    intro K hK; go_simp; refine hK _ ?_; clear hK K
    iterate 6 (refine Rc.rK rfl rfl ?_; intro K hK; apply Exists.intro; refine ⟨?_, ?_⟩; (focus (intro x hx;  go_simp; (first | (fail) | ((try go_bits); (try go_simp); (try rfl))))); go_simp; refine hK _ ?_; clear hK K)
    refine Rc.fK rfl rfl rfl rfl ?_ ?_
    · intro x Fs hx hle hg K hK
      refine unguard16 (by rfl) ?_
      have hbx := Rc.undrew hx
      have hck := (HFE.out ▸ (getR_any (S + 1) (S + 2) qd cd (n : Int) (L.map core) I true x (HP.out.d.below hbx) (by rw [List.length_map]; omega) HG.out.srt).mono (fun _ _ h => ⟨h.1, by rw [h.2]; exact Below.refl _ _⟩) : Calls Tryd.prog 31 #[.pointer (some ⟨S + 1, 0, none⟩), .string ⟨I.toArray⟩, .bool true] x fun e w' => e = .returned (.int .i64 f) ∧ Below x.heap.size x w')
      clear hg hle hx hbx
      go_wp2_with fail
      refine hck.mono ?_
      rintro e x' ⟨rfl, hb⟩
      go_wp2_with fail
      exact hK ⟨none, 0, undef⟩ x' hb (fun _ _ _ _ => trivial)
    intro K hK; go_simp; refine hK _ ?_; clear hK K
    iterate 6 (refine Rc.rK rfl rfl ?_; intro K hK; apply Exists.intro; refine ⟨?_, ?_⟩; (focus (intro x hx;  go_simp; (first | (fail) | ((try go_bits); (try go_simp); (try rfl))))); go_simp; refine hK _ ?_; clear hK K)
    iterate 12 (refine Rc.rSkip rfl rfl ?_; intro K hK; go_simp; refine hK _ ?_; clear hK K)
    iterate 2 (refine Rc.rK rfl rfl ?_; intro K hK; apply Exists.intro; refine ⟨?_, ?_⟩; (focus (intro x hx;  go_simp; (first | (fail) | ((try go_bits); (try go_simp); (try rfl))))); go_simp; refine hK _ ?_; clear hK K)
    refine Rc.done fun wz Fs hx hle hg => ?_
    have hbz := Rc.undrew hx
    have HPZ := Lib.hid (HP.out.below hbz)
    clear hx hle hg hbz
    go_wp2_with fail
    refine NoPanic.normal ?_
    exact HN.out _ _ ⟨by kernel_rfl, rfl, rfl, rfl, rfl, rfl⟩ rfl HPZ.out
theorem asks_l (l : List Value) (Q : Exit → Go.Act → World → Prop) (w0 w : World) (n S i m : Nat) (I : List UInt8) (q : Option Addr) (jn c : Nat) (qa qd : Option Addr) (ca cd : Nat) (L : List Ten) (d : Option Addr) (e pl f : Int)
    (hll : L.length ≤ m) (hm : m ≤ 100) (hp : PairT w0 w S n qa ca L qd cd (L.map core)) (hok : OkT L n) (hIl : I.length ≤ 20)
    (hde : (∃ gd : Nat, d = some ⟨gd, 0, none⟩ ∧ e = 0) ∨ (d = none ∧ ¬ e = 0)) (hpf : (pl, f) = placeT L I)
    (hf : FrR l n q jn c S i)
    (h20 : l[20]? = some (.string ⟨I.toArray⟩)) (h34 : l[34]? = some (.pointer d)) (h35 : l[35]? = some (.int .i64 e)) (h36 : l[36]? = some (.int .i64 pl)) (h37 : l[37]? = some (.int .i64 f)) (h39 : l[39]? = some (.int .i64 e))
    (hN : ∀ l w', FrR l n q jn c S i → l[355]? = some (.bool false) → PairT w0 w' S n qa ca L qd cd (L.map core) → Q .normal ⟨l.toArray, []⟩ w') :
    asksA.wp Tryd.prog Q ⟨l.toArray, []⟩ w := by
  obtain ⟨g, he, hg⟩ := lay hf.len
  rw [he]
  exact asks_any g Q w0 w n S i m I q jn c qa qd ca cd L d e pl f hll hm hp hok hIl hde hpf (hg _ _ hf.p0) (hg _ _ hf.p1) (hg _ _ hf.p15) (hg _ _ hf.p16) (hg _ _ hf.p17) (hg _ _ h20) (hg _ _ h34) (hg _ _ h35) (hg _ _ h36) (hg _ _ h37) (hg _ _ h39) hN
end Ten
end Go.Proofs.YtmkoiddfkanmiaaDoor

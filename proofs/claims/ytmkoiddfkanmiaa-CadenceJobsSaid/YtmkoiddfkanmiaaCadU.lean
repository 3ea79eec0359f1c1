/- The document's Add and Remove. -/
import Derived.Test.YtmkoiddfkanmiaaCadT
namespace Go.Proofs.Ytmkoiddfkanmiaa
open Go.RowKit Bits Mem Sha
namespace Mem
/-- s[k:], and how it reads. -/
theorem low_any {P : Program} (t e : TypeId) (i : TypeInfo) (ht : P.underlying t = some (.slice e)) (hi : P.info? e = some i) (q : Option Addr) (n c k : Nat) (hk : k ≤ n) (hn : n ≤ c) (hq : q = none → c = 0) (hp : ∀ a, q = some a → a.spot = none) :
    ∃ q', (∀ x, (Instr.slice t (.slice q n c) (some (.int .i64 (k : Int))) none none).run P x = .ok (.slice q' (n - k) (c - k)) x) ∧ ∀ y xs, Rd y i.size (.slice q n c) n xs → Rd y i.size (.slice q' (n - k) (c - k)) (n - k) (xs.drop (k * i.size)) := by
  have h3 : (k : Int) ≤ (n : Int) := by omega
  cases q with
  | none =>
    have := hq rfl
    subst this
    obtain rfl : n = 0 := by omega
    obtain rfl : k = 0 := by omega
    refine ⟨none, fun x => ?_, fun y xs h => by simpa using h⟩
    simp [Instr.slice, Instr.sliceBounds, Instr.sliceBound, asIntOf, Sem.run_bind, run_underlying ht, sizeOf, typeInfo, hi]
  | some a =>
    obtain ⟨b, off, sp⟩ := a
    have := hp _ rfl
    simp at this
    subst this
    by_cases h6 : c = k
    · have : n = k := by omega
      subst this
      subst h6
      refine ⟨some ⟨b, off, none⟩, fun x => ?_, fun y xs h => ?_⟩
      · simp [Instr.slice, Instr.sliceBounds, Instr.sliceBound, asIntOf, Sem.run_bind, run_underlying ht, sizeOf, typeInfo, hi]
      · have hx := h.1
        rcases h.2 with ⟨hv, _⟩ | ⟨b', off', cap, hv, hb, _, hcm, _⟩
        · cases hv
        · cases hv
          exact ⟨by simp; omega, .inr ⟨_, _, _, rfl, hb, by omega, by omega, fun j u hu => by rw [List.drop_eq_nil_of_le (by omega)] at hu; simp at hu⟩⟩
    · refine ⟨some ⟨b, off + k * i.size, none⟩, fun x => ?_, fun y xs h => ?_⟩
      · have e : (if k * i.size = 0 then (⟨b, off, none⟩ : Addr) else ⟨b, off + k * i.size, none⟩) = ⟨b, off + k * i.size, none⟩ := by
          split
          · rename_i h; rw [h]; rfl
          · rfl
        have h7 : k ≤ n := hk
        simp [Instr.slice, Instr.sliceBounds, Instr.sliceBound, asIntOf, Sem.run_bind, run_underlying ht, sizeOf, typeInfo, hi, h6, h7, Addr.add, e]
      · have hx := h.1
        rcases h.2 with ⟨hv, _⟩ | ⟨b', off', cap, hv, hb, _, hcm, hc⟩
        · cases hv
        · cases hv
          refine ⟨by rw [List.length_drop, hx, Nat.sub_mul], .inr ⟨_, _, _, rfl, hb, by omega, by omega, fun j u hu => ?_⟩⟩
          rw [List.getElem?_drop] at hu
          rw [Nat.add_assoc]
          exact hc _ u hu
/-- s[:k] reads as the first k. -/
theorem Rd.cut {w : World} {s n k c : Nat} {q : Option Addr} {xs : List Value} (h : Rd w s (.slice q n c) n xs) (hk : k ≤ n) : Rd w s (.slice q k c) k (xs.take (k * s)) := by
  have hx := h.1
  have hks : k * s ≤ n * s := Nat.mul_le_mul_right _ hk
  refine ⟨by rw [List.length_take]; omega, ?_⟩
  rcases h.2 with ⟨hv, h0⟩ | ⟨b', off', cap, hv, hb, hnc, hcm, hc⟩
  · cases hv
    obtain rfl : k = 0 := by omega
    exact .inl ⟨rfl, rfl⟩
  · cases hv
    exact .inr ⟨_, _, _, rfl, hb, by omega, hcm, fun j u hu => hc j u (by rw [List.getElem?_take] at hu; split at hu; exact hu; cases hu)⟩
theorem Rd.form {w : World} {s n c : Nat} {q : Option Addr} {xs : List Value} (h : Rd w s (.slice q n c) n xs) : n ≤ c ∧ c ≤ maxLen ∧ (q = none → c = 0) ∧ ∀ a, q = some a → a.spot = none := by
  rcases h.2 with ⟨hv, h0⟩ | ⟨b', off', cap, hv, hb, hnc, hcm, hc⟩
  · cases hv; exact ⟨Nat.le_refl _, by unfold maxLen; omega, (fun _ => rfl), (fun a h => by cases h)⟩
  · cases hv; exact ⟨hnc, hcm, (fun h => by cases h), (fun a h => by cases h; rfl)⟩
end Mem
namespace Rc
theorem r_sl {P : Program} {ops : Array Oper} {Q : Exit → Act → World → Prop} {B : Nat} {w : World} {spec : List Sp} {fin : List Nat} {tail : List Oper} {p : Nat → Par} {j : Nat} {o : Oper} {r : List Oper} {a : Act} (hl : look spec j = none) (hw : Region.wanted o (yielded ops a.tmps) = true) (t : TypeId) (y z : Operand) (ho : o.op = .slice t y (some z) none none) (e : TypeId) (ht : P.underlying t = some (.slice e))
    (v0 zv v : Value) (hy : a.eval y = v0) (hz : a.eval z = zv) (hrun : ∀ x, (Instr.slice t v0 (some zv) none none).run P x = .ok v x)
    (h : ∀ K : Act → Prop, (∀ a, wpSeq P ops Q B w spec fin tail p (j + 1) r a → K a) → K (a.put o.dst v)) : wpSeq P ops Q B w spec fin tail p j (o :: r) a :=
  r_run _ hl hw (fun x _ => by
    have := hrun x
    simp [execOp, ho, hy, hz, Instr.sliceAt, Sem.run_bind, run_underlying ht, this]) h
end Rc
namespace Cad
theorem infoRef : (Try.prog.info? 49).map (fun i => (i.zero, i.size, i.bytes)) = some (some (.agg #[.string ⟨#[]⟩, .int .i64 0, .int .i64 0]), 3, 32) := by kernel_rfl
set_option maxRecDepth 100000 in
set_option maxHeartbeats 2000000 in
theorem docadd_bad (sb : Nat) (p a : Int) (id : List UInt8) (w : World) (h : p < 1 ∨ 1000 < p ∨ a < 0) :
    Calls Try.prog 16 #[.pointer (some ⟨sb, 0, none⟩), .string ⟨id.toArray⟩, .int .i64 p, .int .i64 a] w fun e w' => e = .returned (.int .i64 1) ∧ w' = w := by
  by_cases h1 : p < 1
  · clear h
    go_enter Try.func16, Try.ntmps16
    go_wp2_with fail
    go_ret
    exact ⟨rfl, rfl⟩
  · have n1 : (p < 1) = False := by simp; omega
    by_cases h2 : 1000 < p
    · clear h h1
      go_enter Try.func16, Try.ntmps16
      go_wp2_with fail
      go_ret
      exact ⟨rfl, rfl⟩
    · have n2 : (1000 < p) = False := by simp; omega
      have h3 : a < 0 := by omega
      clear h h1 h2
      go_enter Try.func16, Try.ntmps16
      go_wp2_with fail
      go_ret
      exact ⟨rfl, rfl⟩
set_option maxRecDepth 100000 in
set_option maxHeartbeats 4000000 in
theorem docadd_good (sb base : Nat) (q : Option Addr) (c : Nat) (now pr ag : Int) (L : List One) (id : List UInt8) (w : World) (h : DocAt w sb base q c now L) (hl : L.length ≤ 1000000) (hm : Srt L) (hbs : base ≤ w.heap.size) (hp1 : 1 ≤ pr) (hp2 : pr ≤ 1000) (ha : 0 ≤ ag) :
    Calls Try.prog 16 #[.pointer (some ⟨sb, 0, none⟩), .string ⟨id.toArray⟩, .int .i64 pr, .int .i64 ag] w fun e w' => ∃ q' c', e = .returned (.int .i64 (addD L id pr ag).1) ∧ DocAt w' sb base q' c' now (addD L id pr ag).2 ∧ Kp (fun k => k = sb) w w' ∧ Grew w q c L.length q' (addD L id pr ag).2.length c' := by
  have HF := Lib.hid (docfind_any sb base q c now L id w h hl hm)
  have HH := Lib.hid h
  have HM := Lib.hid hm
  obtain ⟨c0, c1, f0, f1⟩ := h.cells
  have hsl := (Array.getElem?_eq_some_iff.1 h.1).1
  have hsb := h.2.1
  clear h hm
  have hn1 : (pr < 1) = False := by simp; omega
  have hn2 : (1000 < pr) = False := by simp; omega
  have hn3 : (ag < 0) = False := by simp; omega
  cases hf : has L id with
  | true =>
    have HV : Hid (addD L id pr ag = (11, L)) := Lib.hid (by unfold addD; rw [if_neg (by omega), if_pos hf])
    have hfd : findD L id = (place L id : Int) := by unfold findD; rw [if_pos hf]
    obtain ⟨k, hk⟩ : ∃ k, k = place L id := ⟨_, rfl⟩
    rw [← hk] at hfd
    have HFD := Lib.hid hfd
    have hkI : (0 : Int) ≤ (k : Int) := by omega
    clear hf hfd hk
    go_enter Try.func16, Try.ntmps16
    go_wp2_with fail
    refine HF.out.mono ?_
    rintro e w2 ⟨rfl, rfl⟩
    rw [HFD.out]
    go_wp2_with fail
    go_ret
    exact ⟨q, c, by rw [HV.out]; rfl, by rw [HV.out]; exact HH.out, Kp.of_below (Below.refl _ _), fun k hk => .inl (by rw [HV.out] at hk; exact hk)⟩
  | false =>
    obtain ⟨n, hn⟩ : ∃ n, n = place L id := ⟨_, rfl⟩
    have HV : Hid (addD L id pr ag = (0, L.take n ++ ⟨id, pr, ag⟩ :: L.drop n)) := Lib.hid (by unfold addD; rw [if_neg (by omega), if_neg (by rw [hf]; decide), ← hn])
    have hfd : findD L id = -1 := by unfold findD; rw [if_neg (by rw [hf]; decide)]
    have HFD := Lib.hid hfd
    have HNP := Lib.hid hn
    clear hf hfd hn
    go_enter Try.func16, Try.ntmps16
    go_wp2_with fail
    refine HF.out.mono ?_
    rintro e w2 ⟨rfl, rfl⟩
    rw [HFD.out]
    go_wp2_with fail
    go_loopw [9] (fun iv wr => ∃ i : Nat, iv = .int .i64 i ∧ i ≤ L.length ∧ wr = w2 ∧ Hid (∀ k x, k < i → L[k]? = some x → cmpB x.id id < 0)) (fun iv _ => L.length - (intOf iv).toNat)
    case atStart => exact ⟨0, rfl, Nat.zero_le _, rfl, Lib.hid (fun k x h => by omega)⟩
    case round =>
      obtain ⟨i, rfl, hi, rfl, HI⟩ := hrel
      have hend : (∀ k x, i ≤ k → L[k]? = some x → 0 ≤ cmpB x.id id) → i = n := fun hh => by
        rw [HNP.out]
        exact Stands.place_eq ⟨hi, HI.out, hh⟩
      by_cases hlt : i < L.length
      · have hltI : (i : Int) < (L.length : Int) := by omega
        obtain ⟨x, hx⟩ : ∃ x, L[i]? = some x := ⟨_, List.getElem?_eq_getElem hlt⟩
        obtain ⟨g, rfl⟩ := HH.out.2.2.some_of_lt (by omega)
        obtain ⟨r0, _, _, _, _⟩ := row_cellsE HH.out.2.2 rfl hx
        have hbl := cmpB_less x.id id
        by_cases hc : cmpB x.id id < 0
        · rw [decide_eq_true hc] at hbl
          have HX := Lib.hid hx
          have HC := Lib.hid hc
          clear hx hc hend
          go_wp2_with fail
          refine ⟨⟨i + 1, by go_num, by omega, trivial, Lib.hid (fun k y hk hy => ?_)⟩, by simp [intOf]; omega⟩
          by_cases hki : k = i
          · subst hki
            have : some x = some y := HX.out.symm.trans hy
            cases this
            exact HC.out
          · exact HI.out k y (by omega) hy
        · rw [decide_eq_false hc] at hbl
          have hin : i = n := hend (fun k y hk hy => Int.not_lt.1 fun hl => hc (HM.out.mono id i k x y hk hx hy hl))
          clear hx hc hend
          subst hin
          go_wp2_with fail
          obtain ⟨i0, hi0, hz0, hz1, hz2⟩ := parts3C infoRef
          have hrd := Rd.of_ow HH.out.2.2
          obtain ⟨hnc, hcm, hqn, hqs⟩ := hrd.form
          obtain ⟨ql, hlow, hlr⟩ := low_any (P := Try.prog) 44 49 i0 Try.underlying44 hi0 (some ⟨g, 0, none⟩) L.length c i hi hnc hqn hqs
          rw [hz1] at hlr
          have HLOW := Lib.hid hlow
          have HTK : Hid (∀ x, Below wr.heap.size wr x → Rd x 3 (.slice (some ⟨g, 0, none⟩) i c) i (ones (L.take i))) := Lib.hid (fun x hx => by rw [← ones_take]; exact (hrd.below hx).cut hi)
          have HDR : Hid (∀ x, Below wr.heap.size wr x → Rd x 3 (.slice ql (L.length - i) (c - i)) (L.length - i) (ones (L.drop i))) := Lib.hid (fun x hx => by rw [← ones_drop]; exact hlr x _ (hrd.below hx))
          have hic : i ≤ c := by omega
          clear hrd hlow hlr hnc hcm hqn hqs
          refine Rc.region (wr.heap.size) 24 [Rc.F 1 (fun p => .slice p.q 0 0) (fun p F y => OwF F y wr.heap.size 49 3 (.slice p.q 0 0) 0 []), Rc.C 8 [1] [1] (fun p => .slice p.q i p.c) (fun p F y => OwF F y wr.heap.size 49 3 (.slice p.q i p.c) i (ones (L.take i))), Rc.F 13 (fun p => .slice p.q 1 1) (fun p _ y => Rd y 3 (.slice p.q 1 1) 1 (oneA ⟨id, pr, ag⟩).toList), Rc.C 14 [8, 13] [8] (fun p => .slice p.q (i + 1) p.c) (fun p F y => OwF F y wr.heap.size 49 3 (.slice p.q (i + 1) p.c) (i + 1) (ones (L.take i) ++ (oneA ⟨id, pr, ag⟩).toList)), Rc.C 21 [14] [14] (fun p => .slice p.q (i + 1 + (L.length - i)) p.c) (fun p F y => OwF F y wr.heap.size 49 3 (.slice p.q (i + 1 + (L.length - i)) p.c) (i + 1 + (L.length - i)) (ones (L.take i) ++ (oneA ⟨id, pr, ag⟩).toList ++ ones (L.drop i)))] [21] (by kernel_rfl) (Nat.le_refl _) (by kernel_rfl) ?_; intro p; simp only [List.take, List.drop]
          iterate 1 (refine Rc.rK rfl rfl ?_; intro K hK; apply Exists.intro; refine ⟨?_, ?_⟩; (focus (intro x hx;  go_simp; (first | (fail) | ((try go_bits); (try go_simp); (try rfl))))); go_simp; refine hK _ ?_; clear hK K)
          refine Rc.fK rfl rfl rfl rfl ?_ ?_
          · intro x Fs hx hle hg K hK
            go_wp2_with fail
            exact hK ⟨some ⟨x.heap.size, 0, none⟩, 0, undef⟩ _ ((Below.refl _ _).alloc (Nat.le_refl _) _) fun F y hF hy => OwF.fresh (w := x) (Ow.lit x #[] 49 3 0 x.heap.size (Nat.le_refl _) (Nat.zero_le _) rfl) hle hF hy
          intro K hK; go_simp; refine hK _ ?_; clear hK K
          iterate 5 (refine Rc.rK rfl rfl ?_; intro K hK; apply Exists.intro; refine ⟨?_, ?_⟩; (focus (intro x hx; have c1x := Rc.cell_le hx hsl c1; go_simp; (first | (fail) | ((try go_bits); (try go_simp); (try rfl))))); go_simp; refine hK _ ?_; clear hK K)
          refine Rc.r_cut rfl rfl 44 _ _ rfl 49 i0 Try.underlying44 hi0 (some ⟨g, 0, none⟩) L.length c i rfl rfl hic ?_
          intro K hK; go_simp; refine hK _ ?_; clear hK K
          refine Rc.cK rfl rfl rfl ?_ ?_
          · intro x Fs hx hle hg K hK
            have HO : Hid (OwF (Fs 1) x wr.heap.size 49 3 (.slice (p 1).q 0 0) 0 []) := Lib.hid hg.1
            have hrl := HTK.out x (Rc.undrew hx)
            refine app_ow3 rfl _ _ 44 44 rfl wr.heap.size 49 i0 (.agg #[.string ⟨#[]⟩, .int .i64 0, .int .i64 0]) 3 32 Try.underlying44 hi0 hz0 hz1 hz2 (by rfl) _ 0 [] rfl HO.out.1 i _ rfl (Rd.src Try.underlying44 hrl (ones_one _)) (by unfold maxLen; omega) (by omega) hle ?_
            intro v' x' how hg' hor
            obtain ⟨q', c', rfl⟩ := Ow_form how
            rw [Nat.zero_add] at how hor ⊢
            go_wp2_with fail
            exact hK ⟨q', c', undef⟩ x' (HO.out.eff (by simp [Rc.C]) hg') (fun y hy => HO.out.next (by simp [Rc.C]) how hor hy)
          intro K hK; go_simp; refine hK _ ?_; clear hK K
          iterate 4 (refine Rc.rK rfl rfl ?_; intro K hK; apply Exists.intro; refine ⟨?_, ?_⟩; (focus (intro x hx;  go_simp; (first | (fail) | ((try go_bits); (try go_simp); (try rfl))))); go_simp; refine hK _ ?_; clear hK K)
          refine Rc.fK rfl rfl rfl rfl ?_ ?_
          · intro x Fs hx hle hg K hK
            have hlit := Rd_lit x (oneA ⟨id, pr, ag⟩) 49 3 1 rfl (by decide)
            go_wp2_with fail
            exact hK ⟨some ⟨x.heap.size, 0, none⟩, 0, undef⟩ _ ((Below.refl _ _).alloc (Nat.le_refl _) _) fun F y hF hy => hlit.keeps hy (fun k hk => .inr (by cases hk; exact hF _ (Nat.le_refl _) (by simp)))
          intro K hK; go_simp; refine hK _ ?_; clear hK K
          refine Rc.cK rfl rfl rfl ?_ ?_
          · intro x Fs hx hle hg K hK
            have HO : Hid (OwF (Fs 8) x wr.heap.size 49 3 (.slice (p 8).q i (p 8).c) i (ones (L.take i))) := Lib.hid hg.1
            have hrl : Rd x 3 (.slice (p 13).q 1 1) 1 (oneA ⟨id, pr, ag⟩).toList := hg.2.1
            refine app_ow3 rfl _ _ 44 44 rfl wr.heap.size 49 i0 (.agg #[.string ⟨#[]⟩, .int .i64 0, .int .i64 0]) 3 32 Try.underlying44 hi0 hz0 hz1 hz2 (by rfl) _ i _ rfl HO.out.1 1 _ rfl (Rd.src Try.underlying44 hrl (by intro u hu; rw [oneA_getD] at hu; simp at hu; rcases hu with rfl | rfl | rfl <;> rfl)) (by unfold maxLen; omega) (by omega) hle ?_
            intro v' x' how hg' hor
            obtain ⟨q', c', rfl⟩ := Ow_form how
            go_wp2_with fail
            exact hK ⟨q', c', undef⟩ x' (HO.out.eff (by simp [Rc.C]) hg') (fun y hy => HO.out.next (by simp [Rc.C]) how hor hy)
          intro K hK; go_simp; refine hK _ ?_; clear hK K
          iterate 5 (refine Rc.rK rfl rfl ?_; intro K hK; apply Exists.intro; refine ⟨?_, ?_⟩; (focus (intro x hx; have c1x := Rc.cell_le hx hsl c1; go_simp; (first | (fail) | ((try go_bits); (try go_simp); (try rfl))))); go_simp; refine hK _ ?_; clear hK K)
          refine Rc.r_sl rfl rfl 44 _ _ rfl 49 Try.underlying44 _ _ _ rfl rfl HLOW.out ?_
          intro K hK; go_simp; refine hK _ ?_; clear hK K
          refine Rc.cK rfl rfl rfl ?_ ?_
          · intro x Fs hx hle hg K hK
            have HO : Hid (OwF (Fs 14) x wr.heap.size 49 3 (.slice (p 14).q (i + 1) (p 14).c) (i + 1) (ones (L.take i) ++ (oneA ⟨id, pr, ag⟩).toList)) := Lib.hid hg.1
            have hrl := HDR.out x (Rc.undrew hx)
            refine app_ow3 rfl _ _ 44 44 rfl wr.heap.size 49 i0 (.agg #[.string ⟨#[]⟩, .int .i64 0, .int .i64 0]) 3 32 Try.underlying44 hi0 hz0 hz1 hz2 (by rfl) _ (i + 1) _ rfl HO.out.1 (L.length - i) _ rfl (Rd.src Try.underlying44 hrl (ones_one _)) (by unfold maxLen; omega) (by omega) hle ?_
            intro v' x' how hg' hor
            obtain ⟨q', c', rfl⟩ := Ow_form how
            go_wp2_with fail
            exact hK ⟨q', c', undef⟩ x' (HO.out.eff (by simp [Rc.C]) hg') (fun y hy => HO.out.next (by simp [Rc.C]) how hor hy)
          intro K hK; go_simp; refine hK _ ?_; clear hK K
          iterate 2 (refine Rc.rK rfl rfl ?_; intro K hK; apply Exists.intro; refine ⟨?_, ?_⟩; (focus (intro x hx;  go_simp; (first | (fail) | ((try go_bits); (try go_simp); (try rfl))))); go_simp; refine hK _ ?_; clear hK K)
          refine Rc.done fun x Fs hx hle hg => ?_
          obtain ⟨q2, hq2⟩ : ∃ q2, q2 = (p 21).q := ⟨_, rfl⟩
          obtain ⟨c2, hc2⟩ : ∃ c2, c2 = (p 21).c := ⟨_, rfl⟩
          have hfa : OwF (Fs 21) x wr.heap.size 49 3 (.slice (p 21).q (i + 1 + (L.length - i)) (p 21).c) (i + 1 + (L.length - i)) (ones (L.take i) ++ (oneA ⟨id, pr, ag⟩).toList ++ ones (L.drop i)) := hg.1
          rw [← hq2, ← hc2] at hfa ⊢
          have hbx := Rc.undrew hx
          have hrx := (hbx.block sb hsl).trans HH.out.1
          have f1x : x.frozen? ⟨sb, 1, none⟩ = false := by simp [World.frozen?, hrx]
          have hslx : sb < x.heap.size := (Array.getElem?_eq_some_iff.1 hrx).1
          have d1x : x.cell? ⟨sb, 1, none⟩ = some (.slice (some ⟨g, 0, none⟩) L.length c) := (cell_of_row _ _ _ _ _ _ hrx).trans rfl
          have hln : i + 1 + (L.length - i) = (L.take i ++ ⟨id, pr, ag⟩ :: L.drop i).length := by simp; omega
          have hcells : ones (L.take i) ++ (oneA ⟨id, pr, ag⟩).toList ++ ones (L.drop i) = ones (L.take i ++ ⟨id, pr, ag⟩ :: L.drop i) := by rw [ones_append, ones_cons, List.append_assoc]
          have hfo := hfa.1
          rw [hln, hcells] at hfo
          rw [hln]
          obtain ⟨M, hM⟩ : ∃ M, M = L.take i ++ ⟨id, pr, ag⟩ :: L.drop i := ⟨_, rfl⟩
          rw [← hM] at hfo ⊢
          obtain ⟨w4, hw4⟩ : ∃ w4, w4 = x.setCell ⟨sb, 1, none⟩ (.slice q2 M.length c2) := ⟨_, rfl⟩
          have hr4 : w4.heap[sb]? = some (.cells #[.int .i64 now, .slice q2 M.length c2] 46 (0, 0)) := by
            rw [hw4, setCell_eq_setRow x sb 1 _ _ _ _ hrx]
            exact setRow_heap x sb _ _ _ _ hrx
          have hg4 : x.grownBy w4 (some sb) := by rw [hw4]; exact grown_setCell _ _ _ _
          have ho4 := (hfo.kp (Kp.of_grown hg4) (fun j hj e => by cases e; have := (hfo.lt sb hj).1; omega)).base_le hbs
          have HK4 : Hid (Kp (fun k => k = sb) wr w4) := Lib.hid ((Kp.of_below hbx).trans ((Kp.of_grown hg4).weak (fun k hk => by cases hk; rfl)) (fun _ _ h => h))
          have HS4 : Hid (DocAt w4 sb base q2 c2 now M) := Lib.hid ⟨hr4, hsb, ho4⟩
          have HGR : Hid (Grew wr (some ⟨g, 0, none⟩) c L.length q2 M.length c2) := Lib.hid (fun k hk => .inr (hfo.lt k hk).1)
          have HW4 := Lib.hid hw4
          have HME := Lib.hid hM
          clear hq2 hc2 hfa hx hle hg hbx hrx hln hcells hfo hM hw4 hr4 hg4 ho4
          go_wp2_with (rw [← HW4.out])
          refine NoPanic.normal ?_
          go_wp2_with fail
          go_ret
          exact ⟨q2, c2, by rw [HV.out]; rfl, by rw [HV.out, ← HME.out]; exact HS4.out, HK4.out, by rw [HV.out, ← HME.out]; exact HGR.out⟩
      · have hltI : ¬ (i : Int) < (L.length : Int) := by omega
        have hin : i = n := hend (fun k y hk hy => by have := (List.getElem?_eq_some_iff.1 hy).1; omega)
        clear hend
        subst hin
        go_wp2_with fail
        obtain ⟨i0, hi0, hz0, hz1, hz2⟩ := parts3C infoRef
        have hrd := Rd.of_ow HH.out.2.2
        obtain ⟨hnc, hcm, hqn, hqs⟩ := hrd.form
        obtain ⟨ql, hlow, hlr⟩ := low_any (P := Try.prog) 44 49 i0 Try.underlying44 hi0 q L.length c i hi hnc hqn hqs
        rw [hz1] at hlr
        have HLOW := Lib.hid hlow
        have HTK : Hid (∀ x, Below wr.heap.size wr x → Rd x 3 (.slice q i c) i (ones (L.take i))) := Lib.hid (fun x hx => by rw [← ones_take]; exact (hrd.below hx).cut hi)
        have HDR : Hid (∀ x, Below wr.heap.size wr x → Rd x 3 (.slice ql (L.length - i) (c - i)) (L.length - i) (ones (L.drop i))) := Lib.hid (fun x hx => by rw [← ones_drop]; exact hlr x _ (hrd.below hx))
        have hic : i ≤ c := by omega
        clear hrd hlow hlr hnc hcm hqn hqs
        refine Rc.region (wr.heap.size) 24 [Rc.F 1 (fun p => .slice p.q 0 0) (fun p F y => OwF F y wr.heap.size 49 3 (.slice p.q 0 0) 0 []), Rc.C 8 [1] [1] (fun p => .slice p.q i p.c) (fun p F y => OwF F y wr.heap.size 49 3 (.slice p.q i p.c) i (ones (L.take i))), Rc.F 13 (fun p => .slice p.q 1 1) (fun p _ y => Rd y 3 (.slice p.q 1 1) 1 (oneA ⟨id, pr, ag⟩).toList), Rc.C 14 [8, 13] [8] (fun p => .slice p.q (i + 1) p.c) (fun p F y => OwF F y wr.heap.size 49 3 (.slice p.q (i + 1) p.c) (i + 1) (ones (L.take i) ++ (oneA ⟨id, pr, ag⟩).toList)), Rc.C 21 [14] [14] (fun p => .slice p.q (i + 1 + (L.length - i)) p.c) (fun p F y => OwF F y wr.heap.size 49 3 (.slice p.q (i + 1 + (L.length - i)) p.c) (i + 1 + (L.length - i)) (ones (L.take i) ++ (oneA ⟨id, pr, ag⟩).toList ++ ones (L.drop i)))] [21] (by kernel_rfl) (Nat.le_refl _) (by kernel_rfl) ?_; intro p; simp only [List.take, List.drop]
        iterate 1 (refine Rc.rK rfl rfl ?_; intro K hK; apply Exists.intro; refine ⟨?_, ?_⟩; (focus (intro x hx;  go_simp; (first | (fail) | ((try go_bits); (try go_simp); (try rfl))))); go_simp; refine hK _ ?_; clear hK K)
        refine Rc.fK rfl rfl rfl rfl ?_ ?_
        · intro x Fs hx hle hg K hK
          go_wp2_with fail
          exact hK ⟨some ⟨x.heap.size, 0, none⟩, 0, undef⟩ _ ((Below.refl _ _).alloc (Nat.le_refl _) _) fun F y hF hy => OwF.fresh (w := x) (Ow.lit x #[] 49 3 0 x.heap.size (Nat.le_refl _) (Nat.zero_le _) rfl) hle hF hy
        intro K hK; go_simp; refine hK _ ?_; clear hK K
        iterate 5 (refine Rc.rK rfl rfl ?_; intro K hK; apply Exists.intro; refine ⟨?_, ?_⟩; (focus (intro x hx; have c1x := Rc.cell_le hx hsl c1; go_simp; (first | (fail) | ((try go_bits); (try go_simp); (try rfl))))); go_simp; refine hK _ ?_; clear hK K)
        refine Rc.r_cut rfl rfl 44 _ _ rfl 49 i0 Try.underlying44 hi0 q L.length c i rfl rfl hic ?_
        intro K hK; go_simp; refine hK _ ?_; clear hK K
        refine Rc.cK rfl rfl rfl ?_ ?_
        · intro x Fs hx hle hg K hK
          have HO : Hid (OwF (Fs 1) x wr.heap.size 49 3 (.slice (p 1).q 0 0) 0 []) := Lib.hid hg.1
          have hrl := HTK.out x (Rc.undrew hx)
          refine app_ow3 rfl _ _ 44 44 rfl wr.heap.size 49 i0 (.agg #[.string ⟨#[]⟩, .int .i64 0, .int .i64 0]) 3 32 Try.underlying44 hi0 hz0 hz1 hz2 (by rfl) _ 0 [] rfl HO.out.1 i _ rfl (Rd.src Try.underlying44 hrl (ones_one _)) (by unfold maxLen; omega) (by omega) hle ?_
          intro v' x' how hg' hor
          obtain ⟨q', c', rfl⟩ := Ow_form how
          rw [Nat.zero_add] at how hor ⊢
          go_wp2_with fail
          exact hK ⟨q', c', undef⟩ x' (HO.out.eff (by simp [Rc.C]) hg') (fun y hy => HO.out.next (by simp [Rc.C]) how hor hy)
        intro K hK; go_simp; refine hK _ ?_; clear hK K
        iterate 4 (refine Rc.rK rfl rfl ?_; intro K hK; apply Exists.intro; refine ⟨?_, ?_⟩; (focus (intro x hx;  go_simp; (first | (fail) | ((try go_bits); (try go_simp); (try rfl))))); go_simp; refine hK _ ?_; clear hK K)
        refine Rc.fK rfl rfl rfl rfl ?_ ?_
        · intro x Fs hx hle hg K hK
          have hlit := Rd_lit x (oneA ⟨id, pr, ag⟩) 49 3 1 rfl (by decide)
          go_wp2_with fail
          exact hK ⟨some ⟨x.heap.size, 0, none⟩, 0, undef⟩ _ ((Below.refl _ _).alloc (Nat.le_refl _) _) fun F y hF hy => hlit.keeps hy (fun k hk => .inr (by cases hk; exact hF _ (Nat.le_refl _) (by simp)))
        intro K hK; go_simp; refine hK _ ?_; clear hK K
        refine Rc.cK rfl rfl rfl ?_ ?_
        · intro x Fs hx hle hg K hK
          have HO : Hid (OwF (Fs 8) x wr.heap.size 49 3 (.slice (p 8).q i (p 8).c) i (ones (L.take i))) := Lib.hid hg.1
          have hrl : Rd x 3 (.slice (p 13).q 1 1) 1 (oneA ⟨id, pr, ag⟩).toList := hg.2.1
          refine app_ow3 rfl _ _ 44 44 rfl wr.heap.size 49 i0 (.agg #[.string ⟨#[]⟩, .int .i64 0, .int .i64 0]) 3 32 Try.underlying44 hi0 hz0 hz1 hz2 (by rfl) _ i _ rfl HO.out.1 1 _ rfl (Rd.src Try.underlying44 hrl (by intro u hu; rw [oneA_getD] at hu; simp at hu; rcases hu with rfl | rfl | rfl <;> rfl)) (by unfold maxLen; omega) (by omega) hle ?_
          intro v' x' how hg' hor
          obtain ⟨q', c', rfl⟩ := Ow_form how
          go_wp2_with fail
          exact hK ⟨q', c', undef⟩ x' (HO.out.eff (by simp [Rc.C]) hg') (fun y hy => HO.out.next (by simp [Rc.C]) how hor hy)
        intro K hK; go_simp; refine hK _ ?_; clear hK K
        iterate 5 (refine Rc.rK rfl rfl ?_; intro K hK; apply Exists.intro; refine ⟨?_, ?_⟩; (focus (intro x hx; have c1x := Rc.cell_le hx hsl c1; go_simp; (first | (fail) | ((try go_bits); (try go_simp); (try rfl))))); go_simp; refine hK _ ?_; clear hK K)
        refine Rc.r_sl rfl rfl 44 _ _ rfl 49 Try.underlying44 _ _ _ rfl rfl HLOW.out ?_
        intro K hK; go_simp; refine hK _ ?_; clear hK K
        refine Rc.cK rfl rfl rfl ?_ ?_
        · intro x Fs hx hle hg K hK
          have HO : Hid (OwF (Fs 14) x wr.heap.size 49 3 (.slice (p 14).q (i + 1) (p 14).c) (i + 1) (ones (L.take i) ++ (oneA ⟨id, pr, ag⟩).toList)) := Lib.hid hg.1
          have hrl := HDR.out x (Rc.undrew hx)
          refine app_ow3 rfl _ _ 44 44 rfl wr.heap.size 49 i0 (.agg #[.string ⟨#[]⟩, .int .i64 0, .int .i64 0]) 3 32 Try.underlying44 hi0 hz0 hz1 hz2 (by rfl) _ (i + 1) _ rfl HO.out.1 (L.length - i) _ rfl (Rd.src Try.underlying44 hrl (ones_one _)) (by unfold maxLen; omega) (by omega) hle ?_
          intro v' x' how hg' hor
          obtain ⟨q', c', rfl⟩ := Ow_form how
          go_wp2_with fail
          exact hK ⟨q', c', undef⟩ x' (HO.out.eff (by simp [Rc.C]) hg') (fun y hy => HO.out.next (by simp [Rc.C]) how hor hy)
        intro K hK; go_simp; refine hK _ ?_; clear hK K
        iterate 2 (refine Rc.rK rfl rfl ?_; intro K hK; apply Exists.intro; refine ⟨?_, ?_⟩; (focus (intro x hx;  go_simp; (first | (fail) | ((try go_bits); (try go_simp); (try rfl))))); go_simp; refine hK _ ?_; clear hK K)
        refine Rc.done fun x Fs hx hle hg => ?_
        obtain ⟨q2, hq2⟩ : ∃ q2, q2 = (p 21).q := ⟨_, rfl⟩
        obtain ⟨c2, hc2⟩ : ∃ c2, c2 = (p 21).c := ⟨_, rfl⟩
        have hfa : OwF (Fs 21) x wr.heap.size 49 3 (.slice (p 21).q (i + 1 + (L.length - i)) (p 21).c) (i + 1 + (L.length - i)) (ones (L.take i) ++ (oneA ⟨id, pr, ag⟩).toList ++ ones (L.drop i)) := hg.1
        rw [← hq2, ← hc2] at hfa ⊢
        have hbx := Rc.undrew hx
        have hrx := (hbx.block sb hsl).trans HH.out.1
        have f1x : x.frozen? ⟨sb, 1, none⟩ = false := by simp [World.frozen?, hrx]
        have hslx : sb < x.heap.size := (Array.getElem?_eq_some_iff.1 hrx).1
        have d1x : x.cell? ⟨sb, 1, none⟩ = some (.slice q L.length c) := (cell_of_row _ _ _ _ _ _ hrx).trans rfl
        have hln : i + 1 + (L.length - i) = (L.take i ++ ⟨id, pr, ag⟩ :: L.drop i).length := by simp; omega
        have hcells : ones (L.take i) ++ (oneA ⟨id, pr, ag⟩).toList ++ ones (L.drop i) = ones (L.take i ++ ⟨id, pr, ag⟩ :: L.drop i) := by rw [ones_append, ones_cons, List.append_assoc]
        have hfo := hfa.1
        rw [hln, hcells] at hfo
        rw [hln]
        obtain ⟨M, hM⟩ : ∃ M, M = L.take i ++ ⟨id, pr, ag⟩ :: L.drop i := ⟨_, rfl⟩
        rw [← hM] at hfo ⊢
        obtain ⟨w4, hw4⟩ : ∃ w4, w4 = x.setCell ⟨sb, 1, none⟩ (.slice q2 M.length c2) := ⟨_, rfl⟩
        have hr4 : w4.heap[sb]? = some (.cells #[.int .i64 now, .slice q2 M.length c2] 46 (0, 0)) := by
          rw [hw4, setCell_eq_setRow x sb 1 _ _ _ _ hrx]
          exact setRow_heap x sb _ _ _ _ hrx
        have hg4 : x.grownBy w4 (some sb) := by rw [hw4]; exact grown_setCell _ _ _ _
        have ho4 := (hfo.kp (Kp.of_grown hg4) (fun j hj e => by cases e; have := (hfo.lt sb hj).1; omega)).base_le hbs
        have HK4 : Hid (Kp (fun k => k = sb) wr w4) := Lib.hid ((Kp.of_below hbx).trans ((Kp.of_grown hg4).weak (fun k hk => by cases hk; rfl)) (fun _ _ h => h))
        have HS4 : Hid (DocAt w4 sb base q2 c2 now M) := Lib.hid ⟨hr4, hsb, ho4⟩
        have HGR : Hid (Grew wr q c L.length q2 M.length c2) := Lib.hid (fun k hk => .inr (hfo.lt k hk).1)
        have HW4 := Lib.hid hw4
        have HME := Lib.hid hM
        clear hq2 hc2 hfa hx hle hg hbx hrx hln hcells hfo hM hw4 hr4 hg4 ho4
        go_wp2_with (rw [← HW4.out])
        refine NoPanic.normal ?_
        go_wp2_with fail
        go_ret
        exact ⟨q2, c2, by rw [HV.out]; rfl, by rw [HV.out, ← HME.out]; exact HS4.out, HK4.out, by rw [HV.out, ← HME.out]; exact HGR.out⟩
end Cad
end Go.Proofs.Ytmkoiddfkanmiaa

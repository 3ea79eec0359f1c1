/- The walk of a table's put. -/
import Derived.Test.YtmkoiddfkanmiaaDoorGTenA
import Derived.Test.YtmkoiddfkanmiaaDoorSlT
import Derived.Test.YtmkoiddfkanmiaaDoorConQ
namespace Go.Proofs.YtmkoiddfkanmiaaDoor
open Go.RowKit Bits Mem Sha Cad
namespace Rq
theorem own_set {w : World} {q : Nat → Prop} {i : Nat} {spec : List Sp} (hq : ∀ k, q k → k < w.heap.size) (h : ∀ s ∈ spec, s.own = free ∨ (s.ix = i ∧ s.own = q)) : Own (fun k => k < w.heap.size ∧ ¬ q k) w spec :=
  ⟨fun k hk => hk.1, fun j s hs k hk => by
    rcases h s (look_mem hs).1 with h | ⟨_, h⟩
    · rw [h] at hk; exact hk.elim
    · rw [h] at hk; exact ⟨fun hp => hp.2 hk, hq k hk⟩, fun j m s t hs ht hne k hk hk' => by
    obtain ⟨hs1, hs2⟩ := look_mem hs
    obtain ⟨ht1, ht2⟩ := look_mem ht
    rcases h s hs1 with h1 | ⟨h1, _⟩
    · rw [h1] at hk; exact hk
    · rcases h t ht1 with h2 | ⟨h2, _⟩
      · rw [h2] at hk'; exact hk'
      · exact hne (by rw [← hs2, ← ht2, h1, h2])⟩
theorem r_conv {P : Program} {ops : Array Oper} {Q : Exit → Act → World → Prop} {Pr : Nat → Prop} {w : World} {spec : List Sp} {fin : List Nat} {tail : List Oper} {p : Nat → Rc.Par} {j : Nat} {o : Oper} {r : List Oper} {a : Act} (hl : look spec j = none) (hw : Region.wanted o (yielded ops a.tmps) = true) (t ts : TypeId) (y : Operand) (ho : o.op = .convert t ts y) (v u : Value) (hx : a.eval y = v)
    (hr : ∀ x, Same Pr w x → (convert t ts v).run P x = .ok u x)
    (h : ∀ K : Act → Prop, (∀ a, wpSeq P ops Q Pr w spec fin tail p (j + 1) r a → K a) → K (a.put o.dst u)) : wpSeq P ops Q Pr w spec fin tail p j (o :: r) a :=
  r_run u hl hw (fun x hs => by
    have := hr x hs
    simp [execOp, ho, hx, this]) h
end Rq
namespace Mem
theorem Rd.at {w x : World} {s n : Nat} {v : Value} {xs : List Value} (h : Rd w s v n xs) (hs : w.heap.size ≤ x.heap.size) (hx : ∀ k, v.ownBlock = some k → x.heap[k]? = w.heap[k]?) : Rd x s v n xs := by
  refine ⟨h.1, ?_⟩
  rcases h.2 with hn | ⟨b, off, cap, rfl, hlt, hnc, hcm, hc⟩
  · exact .inl hn
  · refine .inr ⟨b, off, cap, rfl, Nat.lt_of_lt_of_le hlt hs, hnc, hcm, fun j u hu => ?_⟩
    rw [← hc j u hu]
    unfold World.cell?
    rw [hx b rfl]
theorem Rd.lt {w : World} {s n : Nat} {v : Value} {xs : List Value} (h : Rd w s v n xs) : ∀ k, v.ownBlock = some k → k < w.heap.size := by
  intro k hk
  rcases h.2 with ⟨rfl, _⟩ | ⟨b, off, cap, rfl, hlt, _⟩
  · cases hk
  · cases hk; exact hlt
theorem Ow.atM {w x : World} {B s n : Nat} {e : TypeId} {v : Value} {xs : List Value} (h : Ow w B e s v n xs) (hx : ∀ k, v.ownBlock = some k → x.heap[k]? = w.heap[k]?) : Ow x B e s v n xs := by
  refine ⟨h.1, ?_⟩
  rcases h.2 with hn | ⟨g, cap, cur, fz, rfl, hb, hg, rest⟩
  · exact .inl hn
  · exact .inr ⟨g, cap, cur, fz, rfl, hb, (hx g rfl).trans hg, rest⟩
end Mem
namespace Ten
def putT (L : List Ten) (id : List UInt8) (d : Option Addr) (n : Nat) : (Int × Int) × List Ten := match theT L id with
  | some x => if x.state = 3 then ((0, 9), L) else ((0, 11), L)
  | none => if firstFree (usedT L n) < 0 then ((0, 7), L) else ((firstFree (usedT L n), 0), L.take (place (L.map core) id) ++ ⟨id, 1, firstFree (usedT L n), d⟩ :: L.drop (place (L.map core) id))
theorem firstFree_lt (U : List Bool) : firstFree U < U.length ∧ -1 ≤ firstFree U := by
  unfold firstFree
  cases h : U.findIdx? (fun u => !u) with
  | none => exact ⟨by show (-1 : Int) < _; omega, by show (-1 : Int) ≤ -1; omega⟩
  | some k =>
    rw [List.findIdx?_eq_some_iff_getElem] at h
    have := h.1
    exact ⟨by show (k : Int) < _; omega, by show (-1 : Int) ≤ (k : Int); omega⟩
/-- Where a slice's block may lie behind a call. -/
def GrewT (w : World) (q : Option Addr) (c n : Nat) (q' : Option Addr) (n' c' : Nat) : Prop := ∀ k, (Value.slice q' n' c').ownBlock = some k → (Value.slice q n c).ownBlock = some k ∨ w.heap.size ≤ k
set_option maxRecDepth 100000 in
set_option maxHeartbeats 2000000 in
theorem putT_any (sb base : Nat) (q : Option Addr) (c n : Nat) (L : List Ten) (qi : Option Addr) (ci : Nat) (id : List UInt8) (d : Option Addr) (w : World) (h : TabAt w sb base q c n L) (hl : L.length ≤ 1000) (hm : Srt (L.map core)) (hi : Rd w 1 (.slice qi id.length ci) id.length (bys id)) (hia : ∀ k, (Value.slice qi id.length ci).ownBlock = some k → ¬ (Value.slice q L.length c).ownBlock = some k)
    (hbs : base ≤ w.heap.size) (hp1 : 1 ≤ n) (hp2 : n ≤ 8) (hpl : ∀ x ∈ L, ¬ x.state = 3 → 0 ≤ x.place ∧ x.place < n) :
    Calls Tryd.prog 42 #[.pointer (some ⟨sb, 0, none⟩), .slice qi id.length ci, .pointer d] w fun e w' => ∃ q' c', e = .returned (.tuple #[.int .i64 (putT L id d n).1.1, .int .i64 (putT L id d n).1.2]) ∧ TabAt w' sb base q' c' n (putT L id d n).2 ∧ Kp (fun k => k = sb ∨ (Value.slice q L.length c).ownBlock = some k) w w' ∧ GrewT w q c L.length q' (putT L id d n).2.length c' := by
  have HF := Lib.hid (findT_any sb base q c n L qi ci id w h (by omega) hm hi)
  have HH := Lib.hid h
  have HI := Lib.hid hi
  have HIA := Lib.hid hia
  have HP := Lib.hid hpl
  clear h hm hi hia hpl
  go_enter Tryd.func42, Tryd.ntmps42
  go_wp2_with fail
  refine HF.out.mono ?_
  rintro e w2 ⟨rfl, hb⟩
  obtain ⟨k, hk⟩ : ∃ k, k = place (L.map core) id := ⟨_, rfl⟩
  have H2 := Lib.hid (HH.out.below hb)
  obtain ⟨c0, c1, f0, f1⟩ := H2.out.cells
  have HB2 := Lib.hid hb
  have hs2 := hb.size
  clear hb
  cases hf : has (L.map core) id with
  | true =>
    obtain ⟨x, hx, hid⟩ := has_ten hf
    have HT := Lib.hid (theT_some hf hx)
    rw [← hk] at hx
    rw [← hk]
    have hnl := (List.getElem?_eq_some_iff.1 hx).1
    have hnI : (k : Int) < (L.length : Int) := by omega
    obtain ⟨g, rfl⟩ := H2.out.2.2.some_of_lt (by omega)
    obtain ⟨r0, r1, r2, r3, _, _⟩ := tab_cells H2.out.2.2 rfl hx
    obtain ⟨xi, xs, xp, xd⟩ := x
    have r1 : w2.cell? ⟨g, k * 4 + 1, none⟩ = some (.int .i64 xs) := r1
    clear hf hx hid hk
    by_cases h3 : xs = 3
    · have HV : Hid (putT L id d n = ((0, 9), L)) := Lib.hid (by unfold putT; rw [HT.out]; exact if_pos h3)
      subst h3
      go_wp2_with fail
      go_ret2
      exact ⟨_, c, by rw [HV.out]; rfl, by rw [HV.out]; exact H2.out, Kp.of_below HB2.out, fun j hj => .inl (by rw [HV.out] at hj; exact hj)⟩
    · have h3B : (xs == 3) = false := by rw [beq_eq_false_iff_ne]; exact h3
      have HV : Hid (putT L id d n = ((0, 11), L)) := Lib.hid (by unfold putT; rw [HT.out]; exact if_neg h3)
      go_wp2_with fail
      go_ret2
      exact ⟨_, c, by rw [HV.out]; rfl, by rw [HV.out]; exact H2.out, Kp.of_below HB2.out, fun j hj => .inl (by rw [HV.out] at hj; exact hj)⟩
  | false =>
    have HT := Lib.hid (theT_none hf)
    have hkl : k ≤ L.length := by rw [hk]; have := List.takeWhile_sublist (l := L.map core) (p := fun x => decide (cmpB x.id id < 0)) |>.length_le; rw [List.length_map] at this; exact this
    have HFR := Lib.hid (freeT_walk sb base q c n L w2 H2.out (by omega) hp1 hp2 HP.out)
    obtain ⟨pp, hp⟩ : ∃ pp, pp = firstFree (usedT L n) := ⟨_, rfl⟩
    have hpb := firstFree_lt (usedT L n)
    rw [usedT_length, ← hp] at hpb
    have HPE := Lib.hid hp
    have HKE := Lib.hid hk
    rw [← hk]
    clear hf hk hp
    go_wp2_with fail
    refine HFR.out.mono ?_
    rintro e w3 ⟨rfl, hb⟩
    rw [← HPE.out]
    have H3 := Lib.hid (H2.out.below hb)
    have HB3 := Lib.hid (HB2.out.trans (hb.mono HB2.out.size))
    obtain ⟨c0, c1, f0, f1⟩ := H3.out.cells
    have hsl := H3.out.lt
    have hs3 := hb.size
    clear hb
    by_cases hneg : pp < 0
    · have HV : Hid (putT L id d n = ((0, 7), L)) := Lib.hid (by unfold putT; rw [HT.out, ← HPE.out]; exact if_pos hneg)
      go_wp2_with fail
      go_ret2
      exact ⟨_, c, by rw [HV.out]; rfl, by rw [HV.out]; exact H3.out, Kp.of_below HB3.out, fun j hj => .inl (by rw [HV.out] at hj; exact hj)⟩
    · have HV : Hid (putT L id d n = ((pp, 0), L.take k ++ ⟨id, 1, pp, d⟩ :: L.drop k)) := Lib.hid (by unfold putT; rw [HT.out, ← HPE.out, ← HKE.out]; exact if_neg hneg)
      have HI3 := Lib.hid (HI.out.below HB3.out)
      have hown := H3.out.2.2.lt
      have hsn : ¬ (Value.slice q L.length c).ownBlock = some sb := fun e => by have := (hown sb e).1; have := H3.out.2.1; omega
      have HSN := Lib.hid hsn
      have HOWN := Lib.hid hown
      clear hsn hown
      go_wp2_with fail
      refine Rq.region (fun j => j < w3.heap.size ∧ ¬ ((Value.slice q L.length c).ownBlock = some j)) 15 [⟨11, [], [], some (fun _ pj => .slice (some ⟨pj.c, 0, none⟩) 1 1), fun _ pj F y => (y.heap[pj.c]? = some (.cells (tenA ⟨id, 1, pp, d⟩) 111 (0, 0)) ∧ w3.heap.size ≤ pj.c) ∧ F pj.c, Rq.free⟩, ⟨12, [11], [], some (fun _ pj => .slice pj.q (L.length + 1) pj.c), fun _ pj _ y => Ow y base 111 4 (.slice pj.q (L.length + 1) pj.c) (L.length + 1) (tens (L.take k ++ ⟨id, 1, pp, d⟩ :: L.drop k)) ∧ GrewT w3 q c L.length pj.q (L.length + 1) pj.c, fun j => (Value.slice q L.length c).ownBlock = some j⟩] [12] (by kernel_rfl) (Rq.own_set (i := 12) (fun j hj => (HOWN.out j hj).2) (by intro s hs; simp only [List.mem_cons, List.not_mem_nil, or_false] at hs; rcases hs with rfl | rfl; exact .inl rfl; exact .inr ⟨rfl, rfl⟩)) (by kernel_rfl) ?_; intro p; simp only [List.take, List.drop]
      iterate 7 (refine Rq.rK rfl rfl ?_; intro K hK; apply Exists.intro; refine ⟨?_, ?_⟩; (focus (intro x hx; have c1x : x.cell? ⟨sb, 1, none⟩ = some (Value.slice q L.length c) := (cell_of_row _ _ _ _ _ _ (((Rq.undrew hx).block sb ⟨hsl, HSN.out⟩).trans H3.out.1)).trans rfl; go_simp; (first | (fail) | ((try go_bits); (try go_simp); (try rfl))))); go_simp; refine hK _ ?_; clear hK K)
      refine Rq.r_conv rfl rfl 24 9 _ rfl (.slice qi id.length ci) (.string ⟨id.toArray⟩) rfl (fun x hx => run_conv_str (P := Tryd.prog) (HI3.out.at (Rq.undrew hx).size (fun j hj => (Rq.undrew hx).block j ⟨HI3.out.lt j hj, HIA.out j (by exact hj)⟩)) 9 24 5 Tryd.underlying9 Tryd.underlying24 Tryd.underlying5) ?_
      intro K hK; go_simp; refine hK _ ?_; clear hK K
      iterate 3 (refine Rq.rK rfl rfl ?_; intro K hK; apply Exists.intro; refine ⟨?_, ?_⟩; (focus (intro x hx;  go_simp; (first | (fail) | ((try go_bits); (try go_simp); (try rfl))))); go_simp; refine hK _ ?_; clear hK K)
      refine Rq.cK rfl rfl rfl ?_ ?_
      · intro x Fs hx ho hg K hK
        have hrow := heap_alloc_new x (.cells (tenA ⟨id, 1, pp, d⟩) 111)
        go_wp2_with fail
        have hxs := (Rq.undrew hx).size
        exact hK ⟨none, x.heap.size, undef⟩ _ ⟨rfl, rfl, rfl, Nat.le_of_lt (Array.getElem?_eq_some_iff.1 hrow).1, fun k hk _ => Rg.heap_alloc_past x _ k hk⟩ (fun y hy => ⟨⟨(hy.block _ (Array.getElem?_eq_some_iff.1 hrow).1 (.inr (.inr ⟨Nat.le_refl _, (Array.getElem?_eq_some_iff.1 hrow).1⟩))).trans hrow, hxs⟩, .inr ⟨Nat.le_refl _, (Array.getElem?_eq_some_iff.1 hrow).1⟩⟩)
      intro K hK; go_simp; refine hK _ ?_; clear hK K
      refine Rq.cK rfl rfl rfl ?_ ?_
      · intro x Fs hx ho hg K hK
        have hr0 : x.heap[(p 11).c]? = some (.cells (tenA ⟨id, 1, pp, d⟩) 111 (0, 0)) ∧ w3.heap.size ≤ (p 11).c := (hg.1).1
        have hxs := (Rq.undrew hx).size
        have hox : Ow x base 111 4 (.slice q L.length c) L.length (tens L) := H3.out.2.2.atM (fun j hj => ho j hj)
        have HINS := Lib.hid (insTen_any base (p 11).c q L.length c k (tens L) (tenA ⟨id, 1, pp, d⟩) x rfl (by intro u hu; simp [tenA] at hu; rcases hu with rfl | rfl | rfl | rfl <;> rfl) (tens_one L) hr0.1 (fun e => by have := (HOWN.out _ e).2; omega) hox hkl (by omega) (by omega))
        clear hr0 hox
        go_wp2_with fail
        refine HINS.out.mono ?_
        rintro e x' ⟨q', c', rfl, how, hgw, hgr⟩
        have hcells : (tens L).take (k * 4) ++ (tenA ⟨id, 1, pp, d⟩).toList ++ (tens L).drop (k * 4) = tens (L.take k ++ ⟨id, 1, pp, d⟩ :: L.drop k) := by rw [tens_take, tens_drop, tens_append, tens_cons, List.append_assoc]
        rw [hcells] at how
        go_wp2_with fail
        refine hK ⟨q', c', undef⟩ x' ⟨hgw.os, hgw.tape, hgw.output, hgw.size, fun j hj hn => hgw.block j hj (fun e => hn (.inr e.symm))⟩ (fun y hy => ⟨how.atM (fun j hj => hy.block j (how.lt j hj).2 (.inr ?_)), fun j hj => ?_⟩)
        · rcases hgr j hj with h1 | h1
          · exact .inl (.inr h1)
          · exact .inr ⟨h1, (how.lt j hj).2⟩
        · rcases hgr j hj with h1 | h1
          · exact .inl h1
          · exact .inr (by omega)
      intro K hK; go_simp; refine hK _ ?_; clear hK K
      iterate 2 (refine Rq.rK rfl rfl ?_; intro K hK; apply Exists.intro; refine ⟨?_, ?_⟩; (focus (intro x hx;  go_simp; (first | (fail) | ((try go_bits); (try go_simp); (try rfl))))); go_simp; refine hK _ ?_; clear hK K)
      refine Rq.done fun x Fs hx hg => ?_
      obtain ⟨q2, hq2⟩ : ∃ q2, q2 = (p 12).q := ⟨_, rfl⟩
      obtain ⟨c2, hc2⟩ : ∃ c2, c2 = (p 12).c := ⟨_, rfl⟩
      have hfa : Ow x base 111 4 (.slice (p 12).q (L.length + 1) (p 12).c) (L.length + 1) (tens (L.take k ++ ⟨id, 1, pp, d⟩ :: L.drop k)) ∧ GrewT w3 q c L.length (p 12).q (L.length + 1) (p 12).c := hg.1
      rw [← hq2, ← hc2] at hfa ⊢
      have hsm := Rq.undrew hx
      have hrx := (hsm.block sb ⟨hsl, HSN.out⟩).trans H3.out.1
      have f1x : x.frozen? ⟨sb, 1, none⟩ = false := by simp [World.frozen?, hrx]
      have hslx : sb < x.heap.size := (Array.getElem?_eq_some_iff.1 hrx).1
      have d1x : x.cell? ⟨sb, 1, none⟩ = some (.slice q L.length c) := (cell_of_row _ _ _ _ _ _ hrx).trans rfl
      have hln : L.length + 1 = (L.take k ++ ⟨id, 1, pp, d⟩ :: L.drop k).length := by simp; omega
      rw [hln] at hfa
      rw [hln]
      obtain ⟨M, hM⟩ : ∃ M, M = L.take k ++ ⟨id, 1, pp, d⟩ :: L.drop k := ⟨_, rfl⟩
      rw [← hM] at hfa ⊢
      obtain ⟨w4, hw4⟩ : ∃ w4, w4 = x.setCell ⟨sb, 1, none⟩ (.slice q2 M.length c2) := ⟨_, rfl⟩
      have hr4 : w4.heap[sb]? = some (.cells #[.int .i64 n, .slice q2 M.length c2] 106 (0, 0)) := by
        rw [hw4, setCell_eq_setRow x sb 1 _ _ _ _ hrx]
        exact setRow_heap x sb _ _ _ _ hrx
      have hg4 : x.grownBy w4 (some sb) := by rw [hw4]; exact grown_setCell _ _ _ _
      have hsb := H3.out.2.1
      have ho4 := hfa.1.kp (Kp.of_grown hg4) (fun j hj e => by cases e; have := (hfa.1.lt sb hj).1; omega)
      have hk3 : Kp (fun j => (Value.slice q L.length c).ownBlock = some j) w3 x := ⟨hsm.os, hsm.tape, hsm.output, hsm.size, fun j hj hn => hsm.block j ⟨hj, hn⟩⟩
      have HK4 : Hid (Kp (fun j => j = sb ∨ (Value.slice q L.length c).ownBlock = some j) w w4) := Lib.hid (((Kp.of_below HB3.out).trans (hk3.weak (fun j hj => Or.inr hj)) (fun _ _ h => h)).trans ((Kp.of_grown hg4).weak (fun j hj => by cases hj; exact Or.inl rfl)) (fun _ _ h => h))
      have HS4 : Hid (TabAt w4 sb base q2 c2 n M) := Lib.hid ⟨hr4, hsb, ho4⟩
      have HGR : Hid (GrewT w q c L.length q2 M.length c2) := Lib.hid (fun j hj => by
        rcases hfa.2 j hj with h1 | h1
        · exact .inl h1
        · exact .inr (by omega))
      have HW4 := Lib.hid hw4
      have HME := Lib.hid hM
      clear hq2 hc2 hfa hx hg hsm hrx hln hM hw4 hr4 hg4 ho4 hk3
      go_wp2_with (rw [← HW4.out])
      refine NoPanic.normal ?_
      go_wp2_with fail
      go_ret2
      exact ⟨q2, c2, by rw [HV.out]; rfl, by rw [HV.out, ← HME.out]; exact HS4.out, HK4.out, by rw [HV.out, ← HME.out]; exact HGR.out⟩
end Ten
end Go.Proofs.YtmkoiddfkanmiaaDoor

/- A part of the proof. Plain; no condition. -/
import Derived.Test.YtjkbpdobeljmjaaGreatDoorP7
import Derived.Test.YtjkbpdobeljmjaaGreatDoorP9
import Derived.Test.YtjkbpdobeljmjaaGreatDoorP10
import Derived.Below
/- All blocks but some are as they were. Plain; no condition. -/
namespace Go.Proofs.YtjkbpdobeljmjaaGreatDoor
open Go.RowKit Mem
namespace Mem
structure Kp (S : Nat → Prop) (w w' : World) : Prop where
  os : w'.os = w.os
  tape : w'.tape = w.tape
  output : w'.output = w.output
  size : w.heap.size ≤ w'.heap.size
  block : ∀ k, k < w.heap.size → ¬ S k → w'.heap[k]? = w.heap[k]?
theorem Kp.of_below {S : Nat → Prop} {w w' : World} (h : Below w.heap.size w w') : Kp S w w' := ⟨h.os, h.tape, h.output, h.size, fun k hk _ => h.block k hk⟩
theorem Kp.trans {S T : Nat → Prop} {w w' w'' : World} (h : Kp S w w') (h' : Kp T w' w'') (hT : ∀ k, k < w.heap.size → T k → S k) : Kp S w w'' :=
  ⟨h'.os.trans h.os, h'.tape.trans h.tape, h'.output.trans h.output, Nat.le_trans h.size h'.size, fun k hk hn => (h'.block k (Nat.lt_of_lt_of_le hk h.size) (fun ht => hn (hT k hk ht))).trans (h.block k hk hn)⟩
theorem Kp.below {S : Nat → Prop} {w w' : World} {B : Nat} (h : Kp S w w') (hB : B ≤ w.heap.size) (hS : ∀ k, S k → B ≤ k) : Below B w w' :=
  ⟨h.os, h.tape, h.output, h.size, fun k hk => h.block k (Nat.lt_of_lt_of_le hk hB) (fun hs => by have := hS k hs; omega)⟩
theorem Ow.kp {S : Nat → Prop} {w w' : World} {base n : Nat} {e : TypeId} {size : Nat} {v : Value} {xs : List Value} (h : Ow w base e size v n xs) (hk : Kp S w w') (hS : ∀ k, v.ownBlock = some k → ¬ S k) : Ow w' base e size v n xs := by
  refine ⟨h.1, ?_⟩
  rcases h.2 with hn | ⟨g, cap, cur, fz, rfl, hb, hg, rest⟩
  · exact .inl hn
  · exact .inr ⟨g, cap, cur, fz, rfl, hb, (hk.block g (ltB hg) (hS g rfl)).trans hg, rest⟩
where ltB {w : World} {g : Nat} {o : Obj} (h : w.heap[g]? = some o) : g < w.heap.size := (Array.getElem?_eq_some_iff.1 h).1
end Mem
end Go.Proofs.YtjkbpdobeljmjaaGreatDoor

/- The walks of the log's Add, Len, Root. -/
namespace Go.Proofs.YtjkbpdobeljmjaaGreatDoor
open Go.RowKit Bits Mem Sha
namespace Rq
theorem own_pred {w : World} {q : Nat → Prop} {i : Nat} {spec : List Sp} (hq : ∀ k, q k → k < w.heap.size) (h : ∀ s ∈ spec, s.own = free ∨ (s.ix = i ∧ s.own = q)) : Own (fun k => k < w.heap.size ∧ ¬ q k) w spec :=
  ⟨fun k hk => hk.1, fun j s hs k hk => by
    rcases h s (look_mem hs).1 with h | ⟨_, h⟩
    · rw [h] at hk; exact hk.elim
    · rw [h] at hk; exact ⟨fun hn => hn.2 hk, hq k hk⟩, fun a b s t hs ht hab k hk hk' => by
    have hs' := look_mem hs
    have ht' := look_mem ht
    rcases h s hs'.1 with h1 | ⟨h1, _⟩
    · rw [h1] at hk; exact hk
    · rcases h t ht'.1 with h2 | ⟨h2, _⟩
      · rw [h2] at hk'; exact hk'
      · exact hab (by rw [← hs'.2, ← ht'.2, h1, h2])⟩
end Rq
theorem Sha.Tabs.rows {B : Nat} {w x : World} (h : Sha.Tabs w) (hb : Below B w x) (hT : (3 : Nat) < B ∧ (6 : Nat) < B) : Sha.Tabs x := by
  obtain ⟨t, f, h1⟩ := h.start
  obtain ⟨t', f', h2⟩ := h.rounds
  exact ⟨⟨t, f, (hb.block _ hT.1).trans h1⟩, ⟨t', f', (hb.block _ hT.2).trans h2⟩⟩
namespace Mem
theorem Rd.ltB {w : World} {n : Nat} {size : Nat} {v : Value} {xs : List Value} (h : Rd w size v n xs) : ∀ k, v.ownBlock = some k → k < w.heap.size := fun k hk => by
  rcases h.2 with ⟨hn, _⟩ | ⟨b, off, cap, rfl, hb, _⟩
  · rw [hn] at hk; cases hk
  · cases hk; exact hb
theorem Rd.kpq {w w' : World} {n : Nat} {size : Nat} {v : Value} {xs : List Value} (h : Rd w size v n xs) (hk : ∀ k, v.ownBlock = some k → w'.heap[k]? = w.heap[k]?) : Rd w' size v n xs := by
  obtain ⟨h1, h2⟩ := h
  refine ⟨h1, ?_⟩
  rcases h2 with hn | ⟨b, off, cap, rfl, hb, hnc, hcm, hc⟩
  · exact .inl hn
  · have hbk := hk b rfl
    refine .inr ⟨b, off, cap, rfl, ?_, hnc, hcm, fun j u hj => ?_⟩
    · have h1 : w.heap[b]? = some w.heap[b] := Array.getElem?_eq_getElem hb
      rw [← hbk] at h1
      exact (Array.getElem?_eq_some_iff.1 h1).1
    · have := hc j u hj
      unfold World.cell? at this ⊢
      rw [hbk]
      exact this
theorem Ow.kpq {w w' : World} {base n : Nat} {e : TypeId} {size : Nat} {v : Value} {xs : List Value} (h : Ow w base e size v n xs) (hk : ∀ k, v.ownBlock = some k → w'.heap[k]? = w.heap[k]?) : Ow w' base e size v n xs := by
  refine ⟨h.1, ?_⟩
  rcases h.2 with hn | ⟨g, cap, cur, fz, rfl, hb, hg, rest⟩
  · exact .inl hn
  · exact .inr ⟨g, cap, cur, fz, rfl, hb, (hk g rfl).trans hg, rest⟩
end Mem
namespace Ref
theorem results_cell_slot {P : Program} {fn : Func} {p q : Tmp} {ty : TypeId} (h : fn.results = #[.cell p ty, .tmp q]) (tmps : Array Value) (w : World) (g : Nat) (t : TypeId) (cs : Array Value) (fr : Nat × Nat) (d : TypeDesc) (v : Value)
    (hp : tmps.getD p undef = .pointer (some ⟨g, 0, none⟩)) (hg : w.heap[g]? = some (.cells cs t fr)) (hq : tmps.getD q undef = v)
    (hu : P.underlying ty = some d) (hd : (match d with | .struct _ | .array _ _ => true | _ => false) = true) (hi : (P.info? ty).map (·.size) = some cs.size) :
    (results fn tmps).run P w = .ok (.tuple #[.agg cs, v]) w := by
  have hp' : tmps[p]?.getD undef = .pointer (some ⟨g, 0, none⟩) := by simpa using hp
  have hq' : tmps[q]?.getD undef = v := by simpa using hq
  simp [results, h, hp', hq', asAddr, run_loadVar_row w g t ty cs fr d hg hu hd hi]
theorem info_zero : (Tryz.prog.info? 22).map (·.size) = some (bysA zeros32).size := by rw [bysA_size]; exact info32
def rootAns (D : List (List UInt8)) (n : Int) : Value := if 0 ≤ n ∧ n ≤ D.length then .tuple #[.agg (bysA (treeS (D.take n.toNat))), .int .i64 0] else .tuple #[.agg (bysA zeros32), .int .i64 1]
end Ref
end Go.Proofs.YtjkbpdobeljmjaaGreatDoor

/- A log that is a part of a greater object: Add, Len, Root. Conditions: sha2's tables lie. -/
namespace Go.Proofs.YtjkbpdobeljmjaaGreatDoor
open Go.RowKit Bits Mem Sha
namespace Rs
open Ref
def LogAt (w : World) (lb lo : Nat) (C : Array Value) (t : TypeId) (base : Nat) (q : Option Addr) (c : Nat) (D : List (List UInt8)) : Prop :=
  (w.heap[lb]? = some (.cells C t (0, 0)) ∧ C[lo]? = some (.slice q D.length c) ∧ t ≠ 22) ∧ OwL w base (.slice q D.length c) D
theorem LogAt.below {w w' : World} {lb lo base : Nat} {C : Array Value} {t : TypeId} {q : Option Addr} {c : Nat} {D : List (List UInt8)} (h : LogAt w lb lo C t base q c D) (hb : Below w.heap.size w w') : LogAt w' lb lo C t base q c D :=
  ⟨⟨Rp.row_le hb h.1.1, h.1.2⟩, h.2.below hb⟩
theorem LogAt.cell {w : World} {lb lo base : Nat} {C : Array Value} {t : TypeId} {q : Option Addr} {c : Nat} {D : List (List UInt8)} (h : LogAt w lb lo C t base q c D) : w.cell? ⟨lb, lo, none⟩ = some (.slice q D.length c) := by
  rw [cell_of_row w lb _ _ _ _ h.1.1]; exact h.1.2.1
theorem LogAt.apart {w : World} {lb lo base : Nat} {C : Array Value} {t : TypeId} {q : Option Addr} {c : Nat} {D : List (List UInt8)} (h : LogAt w lb lo C t base q c D) : (Value.slice q D.length c).ownBlock ≠ some lb := fun hq => by
  rcases h.2.2.2 with ⟨hv, _⟩ | ⟨g, cap, cur, fz, hv, _, hg, _⟩
  · rw [hv] at hq; cases hq
  · rw [hv] at hq
    cases hq
    rw [h.1.1] at hg
    have h2 := Option.some.inj hg
    injection h2 with _ h3 _
    exact h.1.2.2 h3
set_option maxRecDepth 100000 in
set_option maxHeartbeats 1000000 in
theorem loglen_any (lb lo base : Nat) (C : Array Value) (t : TypeId) (q : Option Addr) (c : Nat) (D : List (List UInt8)) (w : World) (h : LogAt w lb lo C t base q c D) :
    Calls Tryz.prog 227 #[.pointer (some ⟨lb, lo, none⟩)] w fun e w' => e = .returned (.int .i64 (D.length : Int)) ∧ w' = w := by
  have c0 := h.cell
  clear h
  go_enter Tryz.func227, Tryz.ntmps227
  go_wp2_with fail
  go_ret
  exact ⟨rfl, rfl⟩
set_option maxRecDepth 100000 in
set_option maxHeartbeats 4000000 in
theorem logadd_any (lb lo base : Nat) (C : Array Value) (t : TypeId) (q : Option Addr) (c : Nat) (D : List (List UInt8)) (qe : Option Addr) (ce : Nat) (l : List UInt8) (w : World) (hS : Sha.Tabs w) (h : LogAt w lb lo C t base q c D) (hbs : base ≤ w.heap.size) (hT0 : (3 : Nat) < base ∧ (6 : Nat) < base) (hD : D.length ≤ 1000)
    (hl : Rd w 1 (.slice qe l.length ce) l.length (bys l)) (hlq : (Value.slice qe l.length ce).ownBlock = none ∨ (Value.slice qe l.length ce).ownBlock ≠ (Value.slice q D.length c).ownBlock) (hll : l.length ≤ 1000000) :
    Calls Tryz.prog 31 #[.pointer (some ⟨lb, lo, none⟩), .slice qe l.length ce] w fun e w' =>
      ∃ q' c', e = .returned (.int .i64 (D.length : Int)) ∧ LogAt w' lb lo (C.setIfInBounds lo (.slice q' (D ++ [leafS l]).length c')) t base q' c' (D ++ [leafS l]) ∧ Kp (fun k => k = lb ∨ (Value.slice q D.length c).ownBlock = some k) w w' ∧ (∀ k, (Value.slice q' (D ++ [leafS l]).length c').ownBlock = some k → (Value.slice q D.length c).ownBlock = some k ∨ w.heap.size ≤ k) := by
  obtain ⟨i0, hi, hz0, hz1, hz2⟩ := parts3 infoA32
  have c0 := h.cell
  have hlb := lt_of_heap h.1.1
  have HLG := Lib.hid h
  have HS := Lib.hid hS
  have HL := Lib.hid hl
  obtain ⟨E, hE⟩ : ∃ E, E = leafS l := ⟨_, rfl⟩
  have HE := Lib.hid hE
  have HEL : Hid (E.length = 32) := Lib.hid (by rw [hE]; exact leafS_length l)
  have hsE : (bysA E).size = 32 := by rw [bysA_size, HEL.out]
  have hfill := fill_all (bysA E) (bysA zeros32) (by rw [bysA_size, HEL.out]; rfl)
  rw [hsE] at hfill
  have HFILL := Lib.hid hfill
  clear h hS hl hE hfill
  go_enter Tryz.func31, Tryz.ntmps31
  go_wp2_with fail
  have hLq : ∀ x, Rq.Same (fun k => k < w.heap.size ∧ ¬ ((Value.slice q D.length c).ownBlock = some k)) w x → Rd x 1 (.slice qe l.length ce) l.length (bys l) := fun x hx => HL.out.kpq (fun k hk => hx.block k ⟨HL.out.ltB k hk, fun e => by
    rcases hlq with h | h
    · rw [h] at hk; cases hk
    · exact h (hk.trans e.symm)⟩)
  have hap := HLG.out.apart
  have hown := HLG.out.2.2
  have HAP := Lib.hid hap
  have hcap := Rd_cap (Rd.of_ow hown)
  clear hap
  refine Rq.region (fun k => k < w.heap.size ∧ ¬ ((Value.slice q D.length c).ownBlock = some k)) 11 [Rq.S 6 [] [] Rq.free (fun _ => .agg (bysA E)) (fun _ _ _ => True), ⟨7, [6], [], some (fun _ pj => .slice pj.q 1 1), fun _ pj _ y => Rd y 32 (.slice pj.q 1 1) 1 (bysA E).toList, Rq.free⟩, ⟨8, [7], [], some (fun _ pj => .slice pj.q (D.length + 1) pj.c), fun _ pj _ y => Ow y base 22 32 (.slice pj.q (D.length + 1) pj.c) (D.length + 1) (bys D.flatten ++ (bysA E).toList) ∧ (∀ k, (Value.slice pj.q (D.length + 1) pj.c).ownBlock = some k → (Value.slice q D.length c).ownBlock = some k ∨ w.heap.size ≤ k), fun k => (Value.slice q D.length c).ownBlock = some k⟩] [8] (by kernel_rfl) (Rq.own_pred (i := 8) (fun k hk => (hown.lt k hk).2) (by intro s hs; simp only [List.mem_cons, List.not_mem_nil, or_false] at hs; rcases hs with rfl | rfl | rfl <;> first | exact .inl rfl | exact .inr ⟨rfl, rfl⟩)) (by kernel_rfl) ?_; intro p; simp only [List.take, List.drop]
  iterate 6 (refine Rq.rK rfl rfl ?_; intro K hK; apply Exists.intro; refine ⟨?_, ?_⟩; (focus (intro x hx; have c0x : x.cell? ⟨lb, lo, none⟩ = some (.slice q D.length c) := (cell_of_row x lb _ _ _ _ (hx.row (by exact ⟨hlb, HAP.out⟩) HLG.out.1.1)).trans HLG.out.1.2.1; go_simp; (first | (fail) | ((try go_bits); (try go_simp); (try rfl))))); go_simp; refine hK _ ?_; clear hK K)
  refine Rq.cK rfl rfl rfl ?_ ?_
  · intro x Fs hx ho hg K hK
    have hbx : Below base w x := ⟨hx.os, hx.tape, hx.output, hx.size, fun k hk => hx.block k ⟨by omega, fun e => by have := (hown.lt k e).1; omega⟩⟩
    go_wp2_with fail
    refine (entrySum_any qe ce l x (HS.out.rows hbx hT0) (hLq x (Rq.undrew hx)) hll).mono ?_
    rintro e x' ⟨rfl, hb⟩
    rw [← HE.out]
    go_wp2_with fail
    exact hK Rc.dflt x' (Rc.Eff.of_below hb _) (fun _ _ => trivial)
  intro K hK; go_simp; refine hK _ ?_; clear hK K
  refine Rq.cK rfl rfl rfl ?_ ?_
  · intro x Fs hx ho hg K hK
    have hlit := Rd_lit x (bysA E) 22 32 1 (by rw [bysA_size, HEL.out]) (by decide)
    go_wp2_with fail
    rw [z32r, HFILL.out]
    refine hK ⟨some ⟨x.heap.size, 0, none⟩, 1, undef⟩ _ (Rc.Eff.of_below ((Below.refl _ _).alloc (Nat.le_refl _) _) _) fun y hy => ?_
    exact hlit.kpq (fun k hk => by cases hk; exact hy.block _ (by simp) (.inr (.inr ⟨Nat.le_refl _, by simp⟩)))
  intro K hK; go_simp; refine hK _ ?_; clear hK K
  refine Rq.cK rfl rfl rfl ?_ ?_
  · intro x Fs hx ho hg K hK
    have hown2 : Ow x base 22 32 (.slice q D.length c) D.length (bys D.flatten) := hown.kpq (fun k hk => ho k hk)
    have hsrc : Rd x 32 (.slice (p 7).q 1 1) 1 (bysA E).toList := hg.1
    have hsx : base ≤ x.heap.size := Nat.le_trans hbs hx.size
    go_wp2_with (at_builtin; go_must (refine app_ow3 rfl _ _ 32 32 rfl base 22 i0 (.agg (bysA zeros32)) 32 32 Tryz.underlying32 hi hz0 hz1 hz2 (by rfl) _ D.length _ rfl hown2 1 _ rfl (Rd.src Tryz.underlying32 hsrc (bys_one _)) (by unfold maxLen; omega) (by omega) hsx ?_); go_must (intro v3 w3 how3 hg3 hnew3); go_must (obtain ⟨q3, c3, rfl⟩ := Ow_form how3))
    have hg3 : x.grownBy w3 (Value.slice q D.length c).ownBlock := hg3
    have hnew3 : ∀ k, (Value.slice q3 (D.length + 1) c3).ownBlock = some k → (Value.slice q D.length c).ownBlock = some k ∨ x.heap.size ≤ k := hnew3
    refine hK ⟨q3, c3, undef⟩ w3 ⟨hg3.os, hg3.tape, hg3.output, hg3.size, fun j hj hn => hg3.block j hj fun e => hn (.inr e.symm)⟩ fun y hy => ⟨how3.kpq fun k hk => hy.block k (how3.lt k hk).2 (.inr ?_), fun k hk => ?_⟩
    · rcases hnew3 k hk with h | h
      · exact .inl (.inr h)
      · exact .inr ⟨h, (how3.lt k hk).2⟩
    · rcases hnew3 k hk with h | h
      · exact .inl h
      · exact .inr (Nat.le_trans hx.size h)
  intro K hK; go_simp; refine hK _ ?_; clear hK K
  iterate 2 (refine Rq.rK rfl rfl ?_; intro K hK; apply Exists.intro; refine ⟨?_, ?_⟩; (focus (intro x hx;  go_simp; (first | (fail) | ((try go_bits); (try go_simp); (try rfl))))); go_simp; refine hK _ ?_; clear hK K)
  refine Rq.done fun x Fs hx hg => ?_
  have hfact : Ow x base 22 32 (.slice (p 8).q (D.length + 1) (p 8).c) (D.length + 1) (bys D.flatten ++ (bysA E).toList) ∧ (∀ k, (Value.slice (p 8).q (D.length + 1) (p 8).c).ownBlock = some k → (Value.slice q D.length c).ownBlock = some k ∨ w.heap.size ≤ k) := hg.1
  obtain ⟨q8, hq8⟩ : ∃ q8, q8 = (p 8).q := ⟨_, rfl⟩
  obtain ⟨c8, hc8⟩ : ∃ c8, c8 = (p 8).c := ⟨_, rfl⟩
  rw [← hq8, ← hc8] at hfact ⊢
  have hxr : x.heap[lb]? = some (.cells C t (0, 0)) := (Rq.undrew hx).row (by exact ⟨hlb, HAP.out⟩) HLG.out.1.1
  have cx : x.cell? ⟨lb, lo, none⟩ = some (.slice q D.length c) := (cell_of_row x lb _ _ _ _ hxr).trans HLG.out.1.2.1
  have fx : x.frozen? ⟨lb, lo, none⟩ = false := frozen_of_row _ _ _ _ _ hxr
  have HF := Lib.hid hfact
  have HXR := Lib.hid hxr
  have HXS : Hid (Rq.Same (fun k => k < w.heap.size ∧ ¬ ((Value.slice q D.length c).ownBlock = some k)) w x) := Lib.hid (Rq.undrew hx)
  clear hg hx hfact hq8 hc8 hxr c0 hLq
  go_wp2_with fail
  refine NoPanic.normal ?_
  go_wp2_with fail
  go_ret
  have hset : (x.setCell ⟨lb, lo, none⟩ (.slice q8 (D.length + 1) c8)).heap[lb]? = some (.cells (C.setIfInBounds lo (.slice q8 (D.length + 1) c8)) t (0, 0)) := heap_setCell_same _ _ _ _ _ _ HXR.out
  have hgr := grown_setCell x lb lo (.slice q8 (D.length + 1) c8)
  have hnl : ∀ k, (Value.slice q8 (D.length + 1) c8).ownBlock = some k → k ≠ lb := fun k hk e => by
    rcases HF.out.2 k hk with h | h
    · exact HAP.out (e ▸ h)
    · omega
  refine ⟨q8, c8, rfl, ⟨⟨?_, ?_, HLG.out.1.2.2⟩, ?_, ?_⟩, ⟨?_, ?_, ?_, ?_, fun k hk hn => ?_⟩, ?_⟩
  · rw [List.length_append]; exact hset
  · rw [List.length_append, Array.getElem?_setIfInBounds_self_of_lt (Array.getElem?_eq_some_iff.1 HLG.out.1.2.1).1]
  · exact HLG.out.2.1.append (All32.one (leafS_length l))
  · have := HF.out.1.kpq (w' := x.setCell ⟨lb, lo, none⟩ (.slice q8 (D.length + 1) c8)) (fun k hk => hgr.block k (HF.out.1.lt k hk).2 (fun e => hnl k hk (Option.some.inj e)))
    rw [List.length_append, List.flatten_append, bys_append, ← HE.out]
    simpa [bysA] using this
  · exact hgr.os.trans HXS.out.os
  · exact hgr.tape.trans HXS.out.tape
  · exact hgr.output.trans HXS.out.output
  · exact Nat.le_trans HXS.out.size hgr.size
  · exact (hgr.block k (Nat.lt_of_lt_of_le hk HXS.out.size) (fun e => hn (.inl (Option.some.inj e)))).trans (HXS.out.block k ⟨hk, fun e => hn (.inr e)⟩)
  · rw [List.length_append]; exact HF.out.2
set_option maxRecDepth 100000 in
set_option maxHeartbeats 4000000 in
theorem logroot_any (lb lo base : Nat) (C : Array Value) (t : TypeId) (q : Option Addr) (c : Nat) (D : List (List UInt8)) (n : Int) (w : World) (hS : Sha.Tabs w) (h : LogAt w lb lo C t base q c D) (hD : D.length ≤ 1000) :
    Calls Tryz.prog 159 #[.pointer (some ⟨lb, lo, none⟩), .int .i64 n] w fun e w' => e = .returned (rootAns D n) ∧ Below w.heap.size w w' := by
  have hrd := h.2.rd
  have hcap := Rd_cap hrd.2
  obtain ⟨w1, hw1⟩ : ∃ w1, w1 = w.alloc (.cells (bysA zeros32) 22) := ⟨_, rfl⟩
  have hb1 : Below w.heap.size w w1 := by rw [hw1]; exact (Below.refl _ _).alloc (Nat.le_refl _) _
  have hr1 : w1.heap[w.heap.size]? = some (.cells (bysA zeros32) 22 (0, 0)) := by rw [hw1]; exact Rg.heap_alloc_at w _ _ rfl
  have HLG := Lib.hid (h.below hb1)
  have HS := Lib.hid (hS.below hb1)
  have HB := Lib.hid hb1
  have HR := Lib.hid hr1
  have HW := Lib.hid hw1
  have HRD := Lib.hid (hrd.below hb1)
  have HRA := Lib.hid (show rootAns D n = if 0 ≤ n ∧ n ≤ D.length then .tuple #[.agg (bysA (treeS (D.take n.toNat))), .int .i64 0] else .tuple #[.agg (bysA zeros32), .int .i64 1] from rfl)
  have HIZ := Lib.hid info_zero
  have hcM := hcap.2
  have hcD := hcap.1
  clear hS h hb1 hr1 hw1 hrd hcap
  go_enter Tryz.func159, Tryz.ntmps159
  by_cases hneg : n < 0
  ·
    as_aux_lemma =>
      have HE : Hid (rootAns D n = .tuple #[.agg (bysA zeros32), .int .i64 1]) := Lib.hid (by rw [HRA.out, if_neg (by omega)])
      clear HRA
      go_wp2_with (refine Rg.store_row_new rfl 22 _ _ rfl w.heap.size rfl rfl 22 _ (bysA zeros32) rfl HIZ.out (by rfl) (bysA_one _) ?_)
      rw [← HW.out]
      refine bodyPost_ret (v := .tuple #[.agg (bysA zeros32), .int .i64 1]) (results_cell_slot (P := Tryz.prog) rfl _ _ w.heap.size 22 (bysA zeros32) (0, 0) _ _ rfl HR.out rfl Tryz.underlying22 rfl HIZ.out) rfl ⟨by rw [HE.out], HB.out⟩
  · have c0 := HLG.out.cell
    by_cases hbig : (D.length : Int) < n
    ·
      as_aux_lemma =>
        have HE : Hid (rootAns D n = .tuple #[.agg (bysA zeros32), .int .i64 1]) := Lib.hid (by rw [HRA.out, if_neg (by omega)])
        clear HRA
        go_wp2_with fail
        rw [z32r, ← HW.out]
        refine (loglen_any lb lo base C t q c D w1 HLG.out).mono ?_
        rintro e w2 ⟨rfl, hw2⟩
        subst hw2
        go_wp2_with (refine Rg.store_row rfl 22 _ _ rfl w.heap.size rfl 22 (bysA zeros32) (bysA zeros32) rfl HR.out HIZ.out rfl (bysA_one _) ?_)
        refine bodyPost_ret (v := .tuple #[.agg (bysA zeros32), .int .i64 1]) (results_cell_slot (P := Tryz.prog) rfl _ _ w.heap.size 22 (bysA zeros32) (0, 0) _ _ rfl (setRow_heap _ _ _ _ 22 _ HR.out) rfl Tryz.underlying22 rfl HIZ.out) rfl ⟨by rw [HE.out], ?_⟩
        exact Rg.below_setRow HB.out (Nat.le_refl _) _
    · obtain ⟨m, rfl⟩ : ∃ m : Nat, n = (m : Int) := ⟨n.toNat, by omega⟩
      have hm : m ≤ D.length := by omega
      obtain ⟨R, hR⟩ : ∃ R, R = treeS (D.take m) := ⟨_, rfl⟩
      have HRL : Hid (R.length = 32) := Lib.hid (by rw [hR]; exact treeS_length _ (HRD.out.1.take m))
      have HIR : Hid ((Tryz.prog.info? 22).map (·.size) = some (bysA R).size) := Lib.hid (by rw [bysA_size, HRL.out]; exact info32)
      have HE : Hid (rootAns D m = .tuple #[.agg (bysA R), .int .i64 0]) := Lib.hid (by rw [HRA.out, if_pos (by omega), hR]; rfl)
      have HRE := Lib.hid hR
      clear HRA hR
      go_wp2_with fail
      rw [z32r, ← HW.out]
      refine (loglen_any lb lo base C t q c D w1 HLG.out).mono ?_
      rintro e w2 ⟨rfl, hw2⟩
      subst hw2
      by_cases hz : m = 0
      ·
        as_aux_lemma =>
          subst hz
          go_wp2_with fail
          refine (total_any none 0 [] w2 HS.out ⟨(by intro x h; cases h), Rd.nil _ _⟩ (by decide)).mono ?_
          rintro e w7 ⟨rfl, hb7⟩
          rw [show ([] : List (List UInt8)) = D.take 0 from rfl]
          rw [← HRE.out]
          have HRZ := Lib.hid (Rp.row_le hb7 HR.out)
          have HBW : Hid (Below w.heap.size w w7) := Lib.hid (HB.out.trans (hb7.mono HB.out.size))
          clear hb7
          go_wp2_with (refine Rg.store_row rfl 22 _ _ rfl w.heap.size rfl 22 (bysA zeros32) (bysA R) rfl HRZ.out HIR.out (by rw [bysA_size, bysA_size, HRL.out]; rfl) (bysA_one _) ?_)
          refine bodyPost_ret (v := .tuple #[.agg (bysA R), .int .i64 0]) (results_cell_slot (P := Tryz.prog) rfl _ _ w.heap.size 22 (bysA R) (0, 0) _ _ rfl (setRow_heap _ _ _ _ 22 _ HRZ.out) rfl Tryz.underlying22 rfl HIR.out) rfl ⟨by rw [HE.out], ?_⟩
          exact Rg.below_setRow HBW.out (Nat.le_refl _) _
      ·
        as_aux_lemma =>
          have hzI : ((m : Int) == 0) = false := by rw [beq_eq_false_iff_ne]; omega
          have hmI : (m : Int) ≤ (D.length : Int) := by omega
          have hmc : m ≤ c := by omega
          go_wp2_with fail
          have ht := total_any q c (D.take m) w2 HS.out (by rw [show (D.take m).length = m by rw [List.length_take]; omega]; exact HRD.out.cut' hm) (by rw [List.length_take]; omega)
          rw [show (D.take m).length = m by rw [List.length_take]; omega] at ht
          refine ht.mono ?_
          clear ht
          rintro e w7 ⟨rfl, hb7⟩
          rw [← HRE.out]
          have HRZ := Lib.hid (Rp.row_le hb7 HR.out)
          have HBW : Hid (Below w.heap.size w w7) := Lib.hid (HB.out.trans (hb7.mono HB.out.size))
          clear hb7
          go_wp2_with (refine Rg.store_row rfl 22 _ _ rfl w.heap.size rfl 22 (bysA zeros32) (bysA R) rfl HRZ.out HIR.out (by rw [bysA_size, bysA_size, HRL.out]; rfl) (bysA_one _) ?_)
          refine bodyPost_ret (v := .tuple #[.agg (bysA R), .int .i64 0]) (results_cell_slot (P := Tryz.prog) rfl _ _ w.heap.size 22 (bysA R) (0, 0) _ _ rfl (setRow_heap _ _ _ _ 22 _ HRZ.out) rfl Tryz.underlying22 rfl HIR.out) rfl ⟨by rw [HE.out], ?_⟩
          exact Rg.below_setRow HBW.out (Nat.le_refl _) _
end Rs
end Go.Proofs.YtjkbpdobeljmjaaGreatDoor

/- s[k:]. Conditions: k below the length. -/
namespace Go.Proofs.YtjkbpdobeljmjaaGreatDoor
open Go.RowKit Bits Mem
namespace Rp
variable {P : Program}
theorem run_low (t e : TypeId) (i : TypeInfo) (ht : P.underlying t = some (.slice e)) (hi : P.info? e = some i) (b off n c k : Nat) (hk : k < n) (hn : n ≤ c) (x : World) :
    (Instr.slice t (.slice (some ⟨b, off, none⟩) n c) (some (.int .i64 (k : Int))) none none).run P x = .ok (.slice (some ⟨b, off + k * i.size, none⟩) (n - k) (c - k)) x := by
  have h1 : ¬ c ≤ k := by omega
  have h2 : (k : Int) ≤ (n : Int) := by omega
  have h3 : (n : Int) ≤ (c : Int) := by omega
  have h4 : (k : Int) ≤ (c : Int) := by omega
  have h5 : ¬ c - k = 0 := by omega
  have e : (if k * i.size = 0 then (⟨b, off, none⟩ : Addr) else ⟨b, off + k * i.size, none⟩) = ⟨b, off + k * i.size, none⟩ := by
    split
    · rename_i h; rw [h]; rfl
    · rfl
  have h6 : ¬ c = k := by omega
  have h7 : k ≤ n := Nat.le_of_lt hk
  simp [Instr.slice, Instr.sliceBounds, Instr.sliceBound, asIntOf, Sem.run_bind, run_underlying ht, sizeOf, typeInfo, hi, h6, h7, Addr.add, e]
theorem run_low2 (t e : TypeId) (i : TypeInfo) (ht : P.underlying t = some (.slice e)) (hi : P.info? e = some i) (b off n c k : Nat) (hk : k ≤ n) (hn : n ≤ c) (x : World) :
    ∃ o', (Instr.slice t (.slice (some ⟨b, off, none⟩) n c) (some (.int .i64 (k : Int))) none none).run P x = .ok (.slice (some ⟨b, o', none⟩) (n - k) (c - k)) x ∧ (k < n → o' = off + k * i.size) := by
  rcases Nat.lt_or_ge k n with h | h
  · exact ⟨_, run_low t e i ht hi b off n c k h hn x, fun _ => rfl⟩
  · obtain rfl : k = n := by omega
    have h3 : (k : Int) ≤ (c : Int) := by omega
    by_cases h6 : c = k
    · subst h6
      refine ⟨off, ?_, fun h => absurd h (Nat.lt_irrefl _)⟩
      simp [Instr.slice, Instr.sliceBounds, Instr.sliceBound, asIntOf, Sem.run_bind, run_underlying ht, sizeOf, typeInfo, hi]
    · refine ⟨off + k * i.size, ?_, fun h => absurd h (Nat.lt_irrefl _)⟩
      have e : (if k * i.size = 0 then (⟨b, off, none⟩ : Addr) else ⟨b, off + k * i.size, none⟩) = ⟨b, off + k * i.size, none⟩ := by
        split
        · rename_i h; rw [h]; rfl
        · rfl
      simp [Instr.slice, Instr.sliceBounds, Instr.sliceBound, asIntOf, Sem.run_bind, run_underlying ht, sizeOf, typeInfo, hi, h6, Addr.add, e]
end Rp
theorem l_cutlo {P : Program} {ops : Array Oper} {Q : Exit → Act → World → Prop} {a : Act} {w : World} {o : Oper} {rest : List Oper} (hg : o.guard = none) (t : TypeId) (y z : Operand) (ho : o.op = .slice t y (some z) none none) (e : TypeId) (i : TypeInfo) (ht : P.underlying t = some (.slice e)) (hi : P.info? e = some i)
    (b off n c k size : Nat) (hs : i.size = size) (hy : a.eval y = .slice (some ⟨b, off, none⟩) n c) (hz : a.eval z = .int .i64 (k : Int)) (hk : k < n) (hn : n ≤ c)
    (h : wpList P ops Q rest (a.put o.dst (.slice (some ⟨b, off + k * size, none⟩) (n - k) (c - k))) w) : wpList P ops Q (o :: rest) a w :=
  wpList_plain hg fun K hK => by
    have := Rp.run_low (P := P) t e i ht hi b off n c k hk hn w
    rw [hs] at this
    unfold Oper.wp
    simp [execOp, ho, hy, hz, Instr.sliceAt, Sem.run_bind, run_underlying ht, this, Result.andThen]
    exact hK _ _ h
theorem l_cutlo2 {P : Program} {ops : Array Oper} {Q : Exit → Act → World → Prop} {a : Act} {w : World} {o : Oper} {rest : List Oper} (hg : o.guard = none) (t : TypeId) (y z : Operand) (ho : o.op = .slice t y (some z) none none) (e : TypeId) (i : TypeInfo) (ht : P.underlying t = some (.slice e)) (hi : P.info? e = some i)
    (b off n c k size d : Nat) (hs : i.size = size) (hy : a.eval y = .slice (some ⟨b, off, none⟩) n c) (hz : a.eval z = .int .i64 (k : Int)) (hk : k ≤ n) (hn : n ≤ c) (hd : n - k = d)
    (h : ∀ o', (k < n → o' = off + k * size) → wpList P ops Q rest (a.put o.dst (.slice (some ⟨b, o', none⟩) d (c - k))) w) : wpList P ops Q (o :: rest) a w :=
  wpList_plain hg fun K hK => by
    obtain ⟨o', hr, he⟩ := Rp.run_low2 (P := P) t e i ht hi b off n c k hk hn w
    rw [hd] at hr
    unfold Oper.wp
    simp [execOp, ho, hy, hz, Instr.sliceAt, Sem.run_bind, run_underlying ht, hr, Result.andThen]
    exact hK _ _ (h o' (by rw [← hs]; exact he))
end Go.Proofs.YtjkbpdobeljmjaaGreatDoor

/- The walk of the log's Inclusion. -/
namespace Go.Proofs.YtjkbpdobeljmjaaGreatDoor
open Go.RowKit Bits Mem Sha
namespace Ref
theorem flat_drop (L : List (List UInt8)) (h : All32 L) (k : Nat) (hk : k ≤ L.length) : (L.drop k).flatten = L.flatten.drop (k * 32) := by
  have h1 : L.flatten = (L.take k).flatten ++ (L.drop k).flatten := by rw [← List.flatten_append, List.take_append_drop]
  have h2 := (h.take k).flat
  rw [List.length_take, Nat.min_eq_left hk] at h2
  rw [h1, ← h2, List.drop_left]
theorem All32.drop {L : List (List UInt8)} (h : All32 L) (k : Nat) : All32 (L.drop k) := fun x hx => h x (List.mem_of_mem_drop hx)
theorem RdL.drop {w : World} {b off c k : Nat} {L : List (List UInt8)} (h : RdL w (.slice (some ⟨b, off, none⟩) L.length c) L) (hk : k ≤ L.length) : RdL w (.slice (some ⟨b, off + k * 32, none⟩) (L.length - k) (c - k)) (L.drop k) := by
  have hl := (h.1.drop k).flat
  refine ⟨h.1.drop k, ?_⟩
  rw [List.length_drop] at hl ⊢
  obtain ⟨h1, h2⟩ := h.2
  refine ⟨by rw [bys_length, hl], ?_⟩
  rcases h2 with ⟨hv, _⟩ | ⟨b', off', cap, hv, hb, hnc, hcm, hc⟩
  · cases hv
  · cases hv
    refine .inr ⟨b, off + k * 32, c - k, rfl, hb, by omega, by omega, fun j u hj => ?_⟩
    rw [Nat.add_assoc]
    refine hc _ u ?_
    rw [flat_drop L h.1 k hk] at hj
    unfold bys at hj ⊢
    rw [List.map_drop, List.getElem?_drop] at hj
    exact hj
def RevOk (n : Nat) : Prop := ∀ (q : Option Addr) (c : Nat) (O : List (List UInt8)) (x : World) (B : Nat), O.length = n → OwL x B (.slice q n c) O →
  Calls Tryz.prog 229 #[.slice q n c] x fun e w' => e = .returned (.tuple #[]) ∧ OwL w' B (.slice q n c) O.reverse ∧ x.grownBy w' (Value.slice q n c).ownBlock
set_option maxRecDepth 100000 in
set_option maxHeartbeats 1000000 in
theorem rev_short (n : Nat) (h : n ≤ 1) : RevOk n := by
  intro q c O x B hn ho
  have HO := Lib.hid ho
  have HR : Hid (O.reverse = O) := Lib.hid (by
    match O, hn with
    | [], _ => rfl
    | [_], _ => rfl
    | _ :: _ :: _, hn => simp at hn; omega)
  have h0 : ¬ (0 : Int) < (n : Int) - 1 := by omega
  clear ho
  go_enter Tryz.func229, Tryz.ntmps229
  go_wp2_with fail
  go_loopw [2, 3] (fun a b wr => a = .int .i64 0 ∧ b = .int .i64 ((n : Int) - 1) ∧ wr = x) (fun _ _ _ => 0)
  case atStart => exact ⟨rfl, rfl, rfl⟩
  case round =>
    obtain ⟨rfl, rfl, hw⟩ := hrel
    subst hw
    go_wp2_with fail
    refine bodyPost_end (results_none rfl _ _ _) rfl ?_
    exact ⟨rfl, by rw [HR.out]; exact HO.out, ⟨rfl, rfl, rfl, Nat.le_refl _, fun _ _ _ => rfl⟩⟩
end Ref
end Go.Proofs.YtjkbpdobeljmjaaGreatDoor


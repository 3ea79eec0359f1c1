/- The walks of commit.Make and custumallaw17.binds. -/
import Derived.Test.YtkembhonfehlbaaDoorCommitM
import Derived.Test.YtkembhonfehlbaaDoorConQ
namespace Go.Proofs.YtkembhonfehlbaaDoor
open Go.RowKit Bits Mem Sha
namespace Mem
theorem freeze_row (w : World) (g : Nat) (C : Array Value) (e : TypeId) (h : w.heap[g]? = some (.cells C e (0, 0))) : (w.freeze { block := g, off := C.size } 1).heap[g]? = some (.cells C e (C.size, C.size + 1)) := by
  unfold World.freeze
  simp only [Nat.one_ne_zero, if_false, Array.getElem?_modify, if_true, h]
  simp
theorem freeze_grown (w : World) (g k : Nat) : w.grownBy (w.freeze { block := g, off := k } 1) (some g) := by
  refine ⟨rfl, rfl, rfl, by unfold World.freeze; simp, fun j hj hne => ?_⟩
  unfold World.freeze
  simp only [Nat.one_ne_zero, if_false, Array.getElem?_modify]
  rw [if_neg (fun e => hne (by rw [e]))]
/-- '[]byte("abc")' of a literal that lies anywhere: its row gets the mark of a string's bytes. -/
theorem conv_mark {P : Program} {w : World} {ops : Array Oper} {rest : List Oper} {o : Oper} {a : Act} {Q : Exit → Act → World → Prop} (hgd : o.guard = none) (t : TypeId) (y : Operand) (ho : o.op = .convert t t y)
    (e : TypeId) (ht : P.underlying t = some (.slice e)) (he : P.underlying e = some (.int .u8)) (g n c : Nat) (hx : a.eval y = .slice (some ⟨g, 0, none⟩) n c) (C : Array Value) (hrow : w.heap[g]? = some (.cells C e (0, 0)))
    (h : ∀ w', w'.heap[g]? = some (.cells C e (C.size, C.size + 1)) → w.grownBy w' (some g) → wpList P ops Q rest (a.put o.dst (.slice (some ⟨g, 0, none⟩) n c)) w') : wpList P ops Q (o :: rest) a w := by
  refine wpList_plain hgd fun K hK => ?_
  have hsh : w.shape? g = some (e, C.size) := by unfold World.shape?; rw [hrow]
  have hrun : (convert t t (.slice (some ⟨g, 0, none⟩) n c)).run P w = .ok (.slice (some ⟨g, 0, none⟩) n c) (w.freeze { block := g, off := C.size } 1) := by
    simp [convert, run_underlying ht, run_underlying he, markStringish, hsh]
  unfold Oper.wp
  simp [execOp, ho, hx, hrun, Result.andThen]
  exact hK _ _ (h _ (freeze_row w g C e hrow) (freeze_grown w g C.size))
/-- A literal's row, that nobody else has. -/
def LitF (F : Nat → Prop) (y : World) (q : Option Addr) (C : Array Value) (e : TypeId) : Prop := ∃ g, q = some ⟨g, 0, none⟩ ∧ F g ∧ y.heap[g]? = some (.cells C e (0, 0))
theorem LitF.fresh {x y : World} {B : Nat} {F : Nat → Prop} {C : Array Value} {e : TypeId} (hF : ∀ k, x.heap.size ≤ k → k < (x.alloc (.cells C e)).heap.size → F k) (hy : Rc.Keeps B F (x.alloc (.cells C e)) y) : LitF F y (some ⟨x.heap.size, 0, none⟩) C e :=
  ⟨x.heap.size, rfl, hF _ (Nat.le_refl _) (by simp), (hy.block _ (by simp) (.inr (hF _ (Nat.le_refl _) (by simp)))).trans (Rg.heap_alloc_at x _ _ rfl)⟩
end Mem
namespace Ref
theorem results_cell_rows {P : Program} {fn : Func} {p q : Tmp} {ty : TypeId} (h : fn.results = #[.cell p ty, .cell q ty]) (tmps : Array Value) (w : World) (g k : Nat) (t : TypeId) (cs ds : Array Value) (fr fs : Nat × Nat) (d : TypeDesc)
    (hp : tmps.getD p undef = .pointer (some ⟨g, 0, none⟩)) (hg : w.heap[g]? = some (.cells cs t fr)) (hq : tmps.getD q undef = .pointer (some ⟨k, 0, none⟩)) (hk : w.heap[k]? = some (.cells ds t fs))
    (hu : P.underlying ty = some d) (hd : (match d with | .struct _ | .array _ _ => true | _ => false) = true) (hi : (P.info? ty).map (·.size) = some cs.size) (hj : (P.info? ty).map (·.size) = some ds.size) :
    (results fn tmps).run P w = .ok (.tuple #[.agg cs, .agg ds]) w := by
  have hp' : tmps[p]?.getD undef = .pointer (some ⟨g, 0, none⟩) := by simpa using hp
  have hq' : tmps[q]?.getD undef = .pointer (some ⟨k, 0, none⟩) := by simpa using hq
  simp [results, h, hp', hq', asAddr, run_loadVar_row w g t ty cs fr d hg hu hd hi, run_loadVar_row w k t ty ds fs d hk hu hd hj]
theorem grownBy_setRow (x : World) (g : Nat) (c : Array Value) : x.grownBy (x.setRow g c) (some g) :=
  ⟨rfl, rfl, rfl, by simp, fun k _ hne => setRow_other x g k c (fun e => hne (by rw [e]))⟩
set_option maxRecDepth 100000 in
set_option maxHeartbeats 4000000 in
theorem make_any (k ix : List UInt8) (n : Int) (q : Option Addr) (c : Nat) (l : List UInt8) (w : World) (hS : Sha.Tabs w) (hk : k.length = 32) (hix : ix.length = 32) (hl : Rd w 1 (.slice q l.length c) l.length (bys l)) (h : l.length ≤ 1000000) :
    Calls Tryd.prog 13 #[.agg (bysA k), .agg (bysA ix), .int .i64 n, .slice q l.length c] w fun e w' => e = .returned (.tuple #[.agg (bysA (bound (opener k ix n) ix n l)), .agg (bysA (opener k ix n))]) ∧ Below w.heap.size w w' := by
  have HS := Lib.hid hS
  have HL := Lib.hid hl
  have HK := Lib.hid hk
  have HX := Lib.hid hix
  obtain ⟨wz, hwz⟩ : ∃ wz, wz = (((w.alloc (.cells (bysA k) 22)).alloc (.cells (bysA ix) 22)).alloc (.cells (bysA zeros32) 22)).alloc (.cells (bysA zeros32) 22) := ⟨_, rfl⟩
  have hbz : Below w.heap.size w wz := by rw [hwz]; exact ((((Below.refl _ _).alloc (Nat.le_refl _) _).alloc (by simp) _).alloc (by simp <;> omega) _).alloc (by simp <;> omega) _
  have hrk : wz.heap[w.heap.size]? = some (.cells (bysA k) 22 (0, 0)) := by rw [hwz]; exact (Rg.heap_alloc_past _ _ _ (by simp <;> omega)).trans ((Rg.heap_alloc_past _ _ _ (by simp <;> omega)).trans ((Rg.heap_alloc_past _ _ _ (by simp)).trans (Rg.heap_alloc_at w _ _ rfl)))
  have hrx : wz.heap[w.heap.size + 1]? = some (.cells (bysA ix) 22 (0, 0)) := by rw [hwz]; exact (Rg.heap_alloc_past _ _ _ (by simp <;> omega)).trans ((Rg.heap_alloc_past _ _ _ (by simp)).trans (Rg.heap_alloc_at _ _ _ (by simp)))
  have hr8 : wz.heap[w.heap.size + 1 + 1]? = some (.cells (bysA zeros32) 22 (0, 0)) := by rw [hwz]; exact (Rg.heap_alloc_past _ _ _ (by simp)).trans (Rg.heap_alloc_at _ _ _ (by simp))
  have hr9 : wz.heap[w.heap.size + 1 + 1 + 1]? = some (.cells (bysA zeros32) 22 (0, 0)) := by rw [hwz]; exact Rg.heap_alloc_at _ _ _ (by simp)
  have HWZ := Lib.hid hwz
  have HBZ := Lib.hid hbz
  have HRK := Lib.hid hrk
  have HRX := Lib.hid hrx
  have HR8 := Lib.hid hr8
  have HR9 := Lib.hid hr9
  have HLZ := Lib.hid (hl.below hbz)
  have HOE := Lib.hid (show hmac k (111 :: 112 :: 101 :: 110 :: (ix ++ eight n)) = opener k ix n from rfl)
  have HOL := Lib.hid (opener_length k ix n)
  obtain ⟨O, hO⟩ : ∃ O, O = opener k ix n := ⟨_, rfl⟩
  rw [← hO] at HOE HOL ⊢
  have HML := Lib.hid (bound_length O ix n l)
  obtain ⟨M, hM⟩ : ∃ M, M = bound O ix n l := ⟨_, rfl⟩
  rw [← hM] at HML ⊢
  have HME := Lib.hid hM
  have HIM : Hid ((Tryd.prog.info? 22).map (·.size) = some (bysA M).size) := Lib.hid (by rw [bysA_size, HML.out]; exact info32)
  have HIO : Hid ((Tryd.prog.info? 22).map (·.size) = some (bysA O).size) := Lib.hid (by rw [bysA_size, HOL.out]; exact info32)
  clear hS hl hk hix hwz hbz hrk hrx hr8 hr9 hM hO
  go_enter Tryd.func13, Tryd.ntmps13
  go_wp2_with fail
  rw [z32, ← HWZ.out]
  refine Rc.region (wz.heap.size) 8 [Rc.F 1 (fun p => .slice p.q 4 4) (fun p F y => LitF F y p.q (bysA [111, 112, 101, 110]) 5), Rc.C 2 [1] [1] (fun p => .slice p.q 4 4) (fun p _ y => Rd y 1 (.slice p.q 4 4) 4 (bys [111, 112, 101, 110])), Rc.F 5 (fun p => .slice p.q 8 p.c) (fun p _ y => Rd y 1 (.slice p.q 8 p.c) 8 (bys (eight n))), ⟨6, [2, 5], [], some (fun _ pj => .slice pj.q 3 3), fun p pj _ y => Rd y 1 (.slice pj.q 3 3) 3 [.slice (p 2).q 4 4, .slice (some ⟨w.heap.size + 1, 0, none⟩) 32 32, .slice (p 5).q 8 (p 5).c]⟩, Rc.G 7 [2, 5, 6] (fun _ => .agg (bysA O)) (fun _ _ _ => True)] [] (by kernel_rfl) (Nat.le_refl _) (by kernel_rfl) ?_; intro p; simp only [List.take_succ_cons, List.take_zero, List.take_nil, List.drop_succ_cons, List.drop_zero, List.drop_nil]
  iterate 1 (refine Rc.rK rfl rfl ?_; intro K hK; apply Exists.intro; refine ⟨?_, ?_⟩; (focus (intro x hx;  go_simp; (first | (fail) | ((try go_bits); (try go_simp); (try rfl))))); go_simp; refine hK _ ?_; clear hK K)
  refine Rc.fK rfl rfl rfl rfl ?_ ?_
  · intro x Fs hx hle hg K hK
    go_wp2_with fail
    exact hK ⟨some ⟨x.heap.size, 0, none⟩, 0, undef⟩ _ ((Below.refl _ _).alloc (Nat.le_refl _) _) fun F y hF hy => LitF.fresh hF hy
  intro K hK; go_simp; refine hK _ ?_; clear hK K
  refine Rc.cK rfl rfl rfl ?_ ?_
  · intro x Fs hx hle hg K hK
    obtain ⟨g, hq, hF, hrow⟩ : LitF (Fs 1) x (p 1).q (bysA [111, 112, 101, 110]) 5 := hg.1
    have HQ := Lib.hid hq
    clear hq
    refine conv_mark rfl 23 _ rfl 5 Tryd.underlying23 Tryd.underlying5 g 4 4 (by rw [← HQ.out]; rfl) _ hrow ?_
    intro x' hrow' hgr
    go_wp2_with fail
    refine hK ⟨some ⟨g, 0, none⟩, 0, undef⟩ x' ⟨hgr.os, hgr.tape, hgr.output, hgr.size, fun j hj hn => hgr.block j hj fun e => hn ⟨1, by simp [Rc.C], by cases e; exact hF⟩⟩ fun y hy => ?_
    exact Rd_of_row ((hy.block g (lt_of_heap hrow') (.inr (.inl ⟨1, by simp [Rc.C], hF⟩))).trans hrow') rfl (by decide)
  intro K hK; go_simp; refine hK _ ?_; clear hK K
  iterate 2 (refine Rc.rK rfl rfl ?_; intro K hK; apply Exists.intro; refine ⟨?_, ?_⟩; (focus (intro x hx;  go_simp; (first | (fail) | ((try go_bits); (try go_simp); (try rfl))))); go_simp; refine hK _ ?_; clear hK K)
  refine Rc.fK rfl rfl rfl rfl ?_ ?_
  · intro x Fs hx hle hg K hK
    go_wp2_with fail
    refine (number_any n x).mono ?_
    rintro e x' ⟨v, rfl, hown, hb⟩
    obtain ⟨q', c', rfl⟩ := Ow_form hown
    go_wp2_with fail
    exact hK ⟨q', c', undef⟩ x' hb (fun F y hF hy => Rd.of_ow (OwF.fresh hown hle hF hy).1)
  intro K hK; go_simp; refine hK _ ?_; clear hK K
  refine Rc.fK rfl rfl rfl rfl ?_ ?_
  · intro x Fs hx hle hg K hK
    have hlit := Rd_lit x #[.slice (p 2).q 4 4, .slice (some ⟨w.heap.size + 1, 0, none⟩) 32 32, .slice (p 5).q 8 (p 5).c] 23 1 3 rfl (by decide)
    go_wp2_with fail
    exact hK ⟨some ⟨x.heap.size, 0, none⟩, 3, undef⟩ _ ((Below.refl _ _).alloc (Nat.le_refl _) _) fun F y hF hy => hlit.keeps hy (fun k hk => .inr (by cases hk; exact hF _ (Nat.le_refl _) (by simp)))
  intro K hK; go_simp; refine hK _ ?_; clear hK K
  refine Rc.fK rfl rfl rfl rfl ?_ ?_
  · intro x Fs hx hle hg K hK
    have hbx := HBZ.out.trans ((Rc.undrew hx).mono HBZ.out.size)
    have h2 : Rd x 1 (.slice (p 2).q 4 4) 4 (bys [111, 112, 101, 110]) := hg.1
    have h5 : Rd x 1 (.slice (p 5).q 8 (p 5).c) 8 (bys (eight n)) := hg.2.1
    have h6 : Rd x 1 (.slice (p 6).q 3 3) 3 [.slice (p 2).q 4 4, .slice (some ⟨w.heap.size + 1, 0, none⟩) 32 32, .slice (p 5).q 8 (p 5).c] := hg.2.2.1
    have hrow := Rd_of_row (Rp.row_le (Rc.undrew hx) HRX.out) HX.out (by decide)
    have hpt : Parts x (.slice (p 6).q 3 3) [[111, 112, 101, 110], ix, eight n] := Parts.of3 h6 ⟨_, _, rfl, h2⟩ ⟨_, _, by rw [HX.out], by rw [HX.out]; exact hrow⟩ ⟨_, _, by rw [eight_length], by rw [eight_length]; exact h5⟩
    have hkey := Rd_of_row (Rp.row_le (Rc.undrew hx) HRK.out) HK.out (by decide)
    have hof := of_any (some ⟨w.heap.size, 0, none⟩) 32 k _ _ [[111, 112, 101, 110], ix, eight n] x (HS.out.below hbx) (by rw [HK.out]; exact hkey) hpt (by simp [eight_length, HX.out]) (by rw [HK.out]; omega)
    rw [HK.out, show [[111, 112, 101, 110], ix, eight n].flatten = 111 :: 112 :: 101 :: 110 :: (ix ++ eight n) by simp, HOE.out] at hof
    have HOF := Lib.hid hof
    clear hof hg h2 h5 h6 hrow hpt hkey
    go_wp2_with fail
    refine HOF.out.mono ?_
    rintro e x' ⟨rfl, hb⟩
    go_wp2_with fail
    exact hK Rc.dflt x' hb (fun _ _ _ _ => trivial)
  intro K hK; go_simp; refine hK _ ?_; clear hK K
  refine Rc.done fun x Fs hx hle hg => ?_
  have HR9X := Lib.hid (Rp.row_le (Rc.undrew hx) HR9.out)
  have HR8X := Lib.hid (Rp.row_le (Rc.undrew hx) HR8.out)
  have HRXX := Lib.hid (Rp.row_le (Rc.undrew hx) HRX.out)
  have HBX := Lib.hid (HBZ.out.trans ((Rc.undrew hx).mono HBZ.out.size))
  clear hx hle hg
  go_wp2_with (refine Rg.store_row rfl 22 _ _ rfl (w.heap.size + 1 + 1 + 1) rfl 22 (bysA zeros32) (bysA O) rfl HR9X.out HIO.out (by rw [bysA_size, bysA_size, HOL.out]; rfl) (bysA_one _) ?_)
  refine NoPanic.normal ?_
  have hro := setRow_heap x (w.heap.size + 1 + 1 + 1) _ (bysA O) _ _ HR9X.out
  have hr8 := (setRow_other x (w.heap.size + 1 + 1 + 1) (w.heap.size + 1 + 1) (bysA O) (by omega)).trans HR8X.out
  have hrx := (setRow_other x (w.heap.size + 1 + 1 + 1) (w.heap.size + 1) (bysA O) (by omega)).trans HRXX.out
  have hbw := Rg.below_setRow HBX.out (show w.heap.size ≤ w.heap.size + 1 + 1 + 1 by omega) (bysA O)
  obtain ⟨ws, hws⟩ : ∃ ws, ws = x.setRow (w.heap.size + 1 + 1 + 1) (bysA O) := ⟨_, rfl⟩
  rw [← hws] at hro hr8 hrx hbw ⊢
  have HRO := Lib.hid hro
  have HR8 := Lib.hid hr8
  have HRX := Lib.hid hrx
  have HBW := Lib.hid hbw
  clear hws hro hr8 hrx hbw HR9X HR8X HRXX HBX HR9 HRK
  go_wp2_with fail
  have hl8 := lt_of_heap HR8.out
  refine Rq.region (fun k => k < ws.heap.size ∧ k ≠ w.heap.size + 1 + 1) 7 [Rq.S 4 [] [] Rq.free (fun _ => .agg (bysA M)) (fun _ _ _ => True), Rq.S 6 [] [] (· = w.heap.size + 1 + 1) (fun _ => undef) (fun _ _ y => y.heap[w.heap.size + 1 + 1]? = some (.cells (bysA M) 22 (0, 0)))] [6] (by kernel_rfl) (Rq.own_one (i := 6) hl8 (by intro s hs; simp only [List.mem_cons, List.not_mem_nil, or_false] at hs; rcases hs with rfl | rfl <;> first | exact .inl rfl | exact .inr ⟨rfl, rfl⟩)) (by kernel_rfl) ?_; intro p; simp only [List.take_succ_cons, List.take_zero, List.take_nil, List.drop_succ_cons, List.drop_zero, List.drop_nil]
  refine Rq.r_load rfl rfl _ _ rfl (.agg (bysA O)) (fun x hx => load_mid (l := []) (r := O) (s := []) (o := 0) (by simpa using ((Rq.undrew hx).row (by exact ⟨lt_of_heap HRO.out, by omega⟩) HRO.out)) rfl HOL.out) ?_; intro K hK; go_simp; refine hK _ ?_; clear hK K
  refine Rq.r_load rfl rfl _ _ rfl (.agg (bysA ix)) (fun x hx => load_mid (l := []) (r := ix) (s := []) (o := 0) (by simpa using ((Rq.undrew hx).row (by exact ⟨lt_of_heap HRX.out, by omega⟩) HRX.out)) rfl HX.out) ?_; intro K hK; go_simp; refine hK _ ?_; clear hK K
  iterate 2 (refine Rq.rK rfl rfl ?_; intro K hK; apply Exists.intro; refine ⟨?_, ?_⟩; (focus (intro x hx;  go_simp; (first | (fail) | ((try go_bits); (try go_simp); (try rfl))))); go_simp; refine hK _ ?_; clear hK K)
  refine Rq.cK rfl rfl rfl ?_ ?_
  · intro x Fs hx ho hg K hK
    have hbx : Below w.heap.size w x := HBW.out.trans ⟨hx.os, hx.tape, hx.output, hx.size, fun k hk => hx.block k ⟨by omega, by omega⟩⟩
    go_wp2_with fail
    refine (bind_any O ix n q c l x (HS.out.below hbx) HOL.out HX.out (HL.out.below hbx) h).mono ?_
    rintro e x' ⟨rfl, hb⟩
    rw [← HME.out]
    go_wp2_with fail
    exact hK Rc.dflt x' (Rc.Eff.of_below hb _) (fun _ _ => trivial)
  intro K hK; go_simp; refine hK _ ?_; clear hK K
  refine Rq.r_load rfl rfl _ _ rfl (.agg (bysA O)) (fun x hx => load_mid (l := []) (r := O) (s := []) (o := 0) (by simpa using ((Rq.undrew hx).row (by exact ⟨lt_of_heap HRO.out, by omega⟩) HRO.out)) rfl HOL.out) ?_; intro K hK; go_simp; refine hK _ ?_; clear hK K
  refine Rq.cK rfl rfl rfl ?_ ?_
  · intro x Fs hx ho hg K hK
    have h8 : x.heap[w.heap.size + 1 + 1]? = some (.cells (bysA zeros32) 22 (0, 0)) := (ho _ rfl).trans HR8.out
    go_wp2_with (refine Rg.store_row rfl 22 _ _ rfl (w.heap.size + 1 + 1) rfl 22 (bysA zeros32) (bysA M) rfl h8 HIM.out (by rw [bysA_size, bysA_size, HML.out]; rfl) (bysA_one _) ?_)
    have hgr := grownBy_setRow x (w.heap.size + 1 + 1) (bysA M)
    have h8' := setRow_heap x (w.heap.size + 1 + 1) _ (bysA M) _ _ h8
    exact hK Rc.dflt _ ⟨hgr.os, hgr.tape, hgr.output, hgr.size, fun j hj hn => hgr.block j hj fun e => hn (.inr (by cases e; rfl))⟩ (fun y hy => (hy.block _ (lt_of_heap h8') (.inr (.inl (.inr rfl)))).trans h8')
  intro K hK; go_simp; refine hK _ ?_; clear hK K
  refine Rq.done fun x2 Fs2 hx hg => ?_
  have HR8X : Hid (x2.heap[w.heap.size + 1 + 1]? = some (.cells (bysA M) 22 (0, 0))) := Lib.hid hg.1
  have HRO2 := Lib.hid ((Rq.undrew hx).row (show w.heap.size + 1 + 1 + 1 < ws.heap.size ∧ w.heap.size + 1 + 1 + 1 ≠ w.heap.size + 1 + 1 from ⟨lt_of_heap HRO.out, by omega⟩) HRO.out)
  have HBX : Hid (Below w.heap.size w x2) := Lib.hid (HBW.out.trans ⟨hx.os, hx.tape, hx.output, hx.size, fun k hk => hx.block k ⟨by omega, by omega⟩⟩)
  clear hx hg
  go_wp2_with (refine Rg.store_row rfl 22 _ _ rfl (w.heap.size + 1 + 1 + 1) rfl 22 (bysA O) (bysA O) rfl HRO2.out HIO.out rfl (bysA_one _) ?_)
  refine NoPanic.normal ?_
  go_wp2_with fail
  have h8 := (setRow_other x2 (w.heap.size + 1 + 1 + 1) (w.heap.size + 1 + 1) (bysA O) (by omega)).trans HR8X.out
  have h9 := setRow_heap x2 (w.heap.size + 1 + 1 + 1) _ (bysA O) _ _ HRO2.out
  refine bodyPost_ret (v := .tuple #[.agg (bysA M), .agg (bysA O)]) (results_cell_rows (P := Tryd.prog) rfl _ _ (w.heap.size + 1 + 1) (w.heap.size + 1 + 1 + 1) 22 (bysA M) (bysA O) (0, 0) (0, 0) _ rfl h8 rfl h9 Tryd.underlying22 rfl HIM.out HIO.out) rfl ⟨rfl, ?_⟩
  exact Rg.below_setRow HBX.out (by omega) _
end Ref
end Go.Proofs.YtkembhonfehlbaaDoor

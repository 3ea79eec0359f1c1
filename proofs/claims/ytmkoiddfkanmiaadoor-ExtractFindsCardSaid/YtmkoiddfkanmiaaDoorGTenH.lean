/- The walks of a table's Create and Import, and of custumallaw22.tables. -/
import Derived.Test.YtmkoiddfkanmiaaDoorTenG
namespace Go.Proofs.YtmkoiddfkanmiaaDoor
open Go.RowKit Bits Mem Sha Cad
namespace Mem
theorem freeze_rowT (w : World) (g : Nat) (C : Array Value) (e : TypeId) (h : w.heap[g]? = some (.cells C e (0, 0))) : (w.freeze { block := g, off := C.size } 1).heap[g]? = some (.cells C e (C.size, C.size + 1)) := by
  unfold World.freeze
  simp only [Nat.one_ne_zero, if_false, Array.getElem?_modify, if_true, h]
  simp
theorem freeze_grownT (w : World) (g k : Nat) : w.grownBy (w.freeze { block := g, off := k } 1) (some g) := by
  refine ⟨rfl, rfl, rfl, by unfold World.freeze; simp, fun j hj hne => ?_⟩
  unfold World.freeze
  simp only [Nat.one_ne_zero, if_false, Array.getElem?_modify]
  rw [if_neg (fun e => hne (by rw [e]))]
/-- '[]byte("abc")' of a literal that lies anywhere: its row gets the mark of a string's bytes. -/
theorem conv_markT {P : Program} {w : World} {ops : Array Oper} {rest : List Oper} {o : Oper} {a : Act} {Q : Exit → Act → World → Prop} (hgd : o.guard = none) (t : TypeId) (y : Operand) (ho : o.op = .convert t t y)
    (e : TypeId) (ht : P.underlying t = some (.slice e)) (he : P.underlying e = some (.int .u8)) (g n c : Nat) (hx : a.eval y = .slice (some ⟨g, 0, none⟩) n c) (C : Array Value) (hrow : w.heap[g]? = some (.cells C e (0, 0)))
    (h : ∀ w', w'.heap[g]? = some (.cells C e (C.size, C.size + 1)) → w.grownBy w' (some g) → wpList P ops Q rest (a.put o.dst (.slice (some ⟨g, 0, none⟩) n c)) w') : wpList P ops Q (o :: rest) a w := by
  refine wpList_plain hgd fun K hK => ?_
  have hsh : w.shape? g = some (e, C.size) := by unfold World.shape?; rw [hrow]
  have hrun : (convert t t (.slice (some ⟨g, 0, none⟩) n c)).run P w = .ok (.slice (some ⟨g, 0, none⟩) n c) (w.freeze { block := g, off := C.size } 1) := by
    simp [convert, run_underlying ht, run_underlying he, markStringish, hsh]
  unfold Oper.wp
  simp [execOp, ho, hx, hrun, Result.andThen]
  exact hK _ _ (h _ (freeze_rowT w g C e hrow) (freeze_grownT w g C.size))
/-- A literal's row, that nobody else has. -/
def LitT (B : Nat) (F : Nat → Prop) (y : World) (q : Option Addr) (C : Array Value) (e : TypeId) : Prop := ∃ g, q = some ⟨g, 0, none⟩ ∧ F g ∧ B ≤ g ∧ y.heap[g]? = some (.cells C e (0, 0))
end Mem
namespace Rq
theorem r_buildT {P : Program} {ops : Array Oper} {Q : Exit → Act → World → Prop} {Pr : Nat → Prop} {w : World} {spec : List Sp} {fin : List Nat} {tail : List Oper} {p : Nat → Rc.Par} {j : Nat} {o : Oper} {r : List Oper} {a : Act} (hl : look spec j = none) (hw : Region.wanted o (yielded ops a.tmps) = true) (t : TypeId) (parts : Array (Nat × Operand)) (ho : o.op = .build t parts) (cs : Array Value)
    (hb : P.built t (parts.map fun (i, x) => (i, a.eval x)).toList = some cs)
    (h : ∀ K : Act → Prop, (∀ a, wpSeq P ops Q Pr w spec fin tail p (j + 1) r a → K a) → K (a.put o.dst (.agg cs))) : wpSeq P ops Q Pr w spec fin tail p j (o :: r) a :=
  r_run _ hl hw (fun x _ => by unfold execOp; simp only [ho, Sem.run_bind, run_build x t _ cs hb, Result.andThen_ok, Sem.run_pure]) h
end Rq
namespace Ten
theorem TabAt.at {w x : World} {sb base : Nat} {q : Option Addr} {c : Nat} {pl : Int} {L : List Ten} (h : TabAt w sb base q c pl L) (hr : x.heap[sb]? = w.heap[sb]?) (hx : ∀ k, (Value.slice q L.length c).ownBlock = some k → x.heap[k]? = w.heap[k]?) : TabAt x sb base q c pl L :=
  ⟨hr.trans h.1, h.2.1, h.2.2.atM hx⟩
def makeT (L : List Ten) (id : List UInt8) (d : Option Addr) (n : Nat) : (Int × Int) × List Ten := if id.length < 1 ∨ 16 < id.length then ((0, 1), L) else putT L id d n
set_option maxRecDepth 100000 in
set_option maxHeartbeats 2000000 in
theorem createT_any (sb base : Nat) (q : Option Addr) (c n : Nat) (L : List Ten) (qi : Option Addr) (ci : Nat) (id : List UInt8) (K : List UInt8) (w : World) (hS : Sha.Tabs w) (hK : K.length = 64) (h : TabAt w sb base q c n L) (hl : L.length ≤ 1000) (hm : Srt (L.map core)) (hi : Rd w 1 (.slice qi id.length ci) id.length (bys id)) (hia : ∀ k, (Value.slice qi id.length ci).ownBlock = some k → ¬ (Value.slice q L.length c).ownBlock = some k)
    (hbs : base ≤ w.heap.size) (hp1 : 1 ≤ n) (hp2 : n ≤ 8) (hpl : ∀ x ∈ L, ¬ x.state = 3 → 0 ≤ x.place ∧ x.place < n) :
    Calls Tryd.prog 16 #[.pointer (some ⟨sb, 0, none⟩), .slice qi id.length ci, .agg (bysA K), .agg #[.int .i64 1, .int .i64 1, .int .i64 1]] w fun e w' => ∃ g q' c', e = .returned (.tuple #[.int .i64 (makeT L id (some ⟨g, 0, none⟩) n).1.1, .int .i64 (makeT L id (some ⟨g, 0, none⟩) n).1.2]) ∧ TabAt w' sb base q' c' n (makeT L id (some ⟨g, 0, none⟩) n).2 ∧ Kp (fun k => k = sb ∨ (Value.slice q L.length c).ownBlock = some k) w w' ∧ GrewT w q c L.length q' (makeT L id (some ⟨g, 0, none⟩) n).2.length c' := by
  have HS := Lib.hid hS
  have HI := Lib.hid hi
  have HT := Lib.hid h
  have HIA := Lib.hid hia
  have HP := Lib.hid hpl
  have HM := Lib.hid hm
  have HKL := Lib.hid hK
  obtain ⟨k, hk⟩ : ∃ k, k = w.heap.size := ⟨_, rfl⟩
  have hs1 : (w.alloc (.cells (bysA K) 44)).heap.size = k + 1 := by rw [hk]; exact Array.size_push _
  have hb1 : Below w.heap.size w (w.alloc (.cells (bysA K) 44)) := (Below.refl w.heap.size w).alloc (Nat.le_refl _) _
  obtain ⟨wl, hwl⟩ : ∃ wl, wl = (w.alloc (.cells (bysA K) 44)).alloc (.cells #[.int .i64 1, .int .i64 1, .int .i64 1] 46) := ⟨_, rfl⟩
  have hb2 : Below (k + 1) (w.alloc (.cells (bysA K) 44)) wl := by rw [hwl]; exact (Below.refl _ _).alloc (by omega) _
  have hrk : wl.heap[k]? = some (.cells (bysA K) 44 (0, 0)) := (hb2.block k (by omega)).trans (by rw [hk]; exact heap_alloc_new w _)
  have hrl : wl.heap[k + 1]? = some (.cells #[.int .i64 1, .int .i64 1, .int .i64 1] 46 (0, 0)) := by rw [hwl, ← hs1]; exact heap_alloc_new _ _
  have hbl : Below w.heap.size w wl := hb1.trans (hb2.mono (by omega))
  have hkl := (Array.getElem?_eq_some_iff.1 hrk).1
  have hll := (Array.getElem?_eq_some_iff.1 hrl).1
  have e0 : wl.cell? ⟨k + 1, 0, none⟩ = some (.int .i64 1) := (cell_of_row _ _ _ _ _ _ hrl).trans rfl
  have e1 : wl.cell? ⟨k + 1, 1, none⟩ = some (.int .i64 1) := (cell_of_row _ _ _ _ _ _ hrl).trans rfl
  have e2 : wl.cell? ⟨k + 1, 2, none⟩ = some (.int .i64 1) := (cell_of_row _ _ _ _ _ _ hrl).trans rfl
  have HWL := Lib.hid hwl
  have HBL := Lib.hid hbl
  have HKE := Lib.hid hk
  have HS1 := Lib.hid hs1
  have HLD : Hid (∀ x, Below wl.heap.size wl x → (Instr.loadAt 44 (.pointer (some ⟨k, 0, none⟩))).run Tryd.prog x = .ok (.agg (bysA K)) x) := Lib.hid (fun x hx => by
    have hrow := (hx.block k hkl).trans hrk
    have := run_loadAt_mid (P := Tryd.prog) x k 0 44 (bysA K).toList _ (fun j u hu => by rw [cell_of_row x k _ _ _ _ hrow, Nat.zero_add]; simpa using hu) Tryd.underlying44 rfl (by rw [Array.length_toList, bysA_size, hK]; kernel_rfl)
    simpa using this)
  have HLM : Hid ((Instr.loadAt 46 (.pointer (some ⟨k + 1, 0, none⟩))).run Tryd.prog wl = .ok (.agg #[.int .i64 1, .int .i64 1, .int .i64 1]) wl) := Lib.hid (by
    have := run_loadAt_mid (P := Tryd.prog) wl (k + 1) 0 46 [.int .i64 1, .int .i64 1, .int .i64 1] _ (fun j u hu => by rw [cell_of_row wl (k + 1) _ _ _ _ hrl, Nat.zero_add]; simpa using hu) Tryd.underlying46 rfl (by kernel_rfl)
    simpa using this)
  have HLK := Lib.hid (HLD.out wl (Below.refl _ _))
  clear hwl hbl hb1 hb2 hrk hrl hS hs1 hk h hi hia hpl hm hK e0 e1 e2 hkl hll HLD
  by_cases hbad : id.length < 1 ∨ 16 < id.length
  · have HV : Hid (∀ d, makeT L id d n = ((0, 1), L)) := Lib.hid (fun d => if_pos hbad)
    have HB := Lib.hid hbad
    clear hbad
    go_enter Tryd.func16, Tryd.ntmps16
    go_wp2_with ((try rw [← HWL.out, ← HKE.out]); first | (refine l_load rfl 44 _ rfl _ HLK.out ?_) | (refine l_load rfl 46 _ rfl _ HLM.out ?_))
    refine (newDir_bad qi ci id K wl HKL.out HB.out).mono ?_
    rintro e wd ⟨rfl, hb⟩
    have HBD := Lib.hid (HBL.out.trans (hb.mono HBL.out.size))
    clear hb
    go_wp2_with fail
    go_ret2
    exact ⟨0, q, c, by rw [HV.out]; rfl, by rw [HV.out]; exact HT.out.below HBD.out, Kp.of_below HBD.out, fun j hj => .inl (by rw [HV.out] at hj; exact hj)⟩
  · have HV : Hid (∀ d, makeT L id d n = putT L id d n) := Lib.hid (fun d => if_neg hbad)
    have HB : Hid (1 ≤ id.length ∧ id.length ≤ 16) := Lib.hid ⟨by omega, by omega⟩
    clear hbad
    go_enter Tryd.func16, Tryd.ntmps16
    go_wp2_with ((try rw [← HWL.out, ← HKE.out]); first | (refine l_load rfl 44 _ rfl _ HLK.out ?_) | (refine l_load rfl 46 _ rfl _ HLM.out ?_))
    refine (newDir_any qi ci id K wl (HS.out.below HBL.out) HKL.out HB.out.1 HB.out.2 (HI.out.below HBL.out)).mono ?_
    rintro e wd ⟨g, rfl, _, _, hb⟩
    have hbd := HBL.out.trans (hb.mono HBL.out.size)
    have HBD := Lib.hid hbd
    have HPUT := Lib.hid (putT_any sb base q c n L qi ci id (some ⟨g, 0, none⟩) wd (HT.out.below hbd) hl HM.out (HI.out.below hbd) HIA.out (Nat.le_trans hbs hbd.size) hp1 hp2 HP.out)
    clear hb hbd
    go_wp2_with fail
    refine HPUT.out.mono ?_
    rintro e w3 ⟨q', c', rfl, hT, hkp, hgr⟩
    have HT3 := Lib.hid hT
    have HK3 := Lib.hid hkp
    have HG3 := Lib.hid hgr
    clear hT hkp hgr
    go_wp2_with fail
    go_ret2
    exact ⟨g, q', c', by rw [HV.out]; rfl, by rw [HV.out]; exact HT3.out, (Kp.of_below HBD.out).trans HK3.out (fun _ _ h => h), fun j hj => by
      rw [HV.out] at hj
      rcases HG3.out j hj with h1 | h1
      · exact .inl h1
      · exact .inr (Nat.le_trans HBD.out.size h1)⟩
set_option maxRecDepth 100000 in
set_option maxHeartbeats 1000000 in
theorem impT_nil (sb : Nat) (q : Option Addr) (n c : Nat) (w : World) : Calls Tryd.prog 13 #[.pointer (some ⟨sb, 0, none⟩), .slice q n c, .pointer none] w fun e w' => e = .returned (.tuple #[.int .i64 0, .int .i64 1]) ∧ w' = w := by
  go_enter Tryd.func13, Tryd.ntmps13
  go_wp2_with fail
  go_ret2
  exact ⟨rfl, rfl⟩
end Ten
end Go.Proofs.YtmkoiddfkanmiaaDoor
/- The walks of custumallaw22.tables and TenantNil. -/
namespace Go.Proofs.YtmkoiddfkanmiaaDoor
open Go.RowKit Bits Mem Sha Cad
namespace Mem
theorem l_buildT {P : Program} {ops : Array Oper} {Q : Exit → Act → World → Prop} {a : Act} {w : World} {o : Oper} {rest : List Oper} (hg : o.guard = none) (t : TypeId) (parts : Array (Nat × Operand)) (ho : o.op = .build t parts) (cs : Array Value)
    (hb : P.built t (parts.map fun (i, x) => (i, a.eval x)).toList = some cs)
    (h : wpList P ops Q rest (a.put o.dst (.agg cs)) w) : wpList P ops Q (o :: rest) a w :=
  wpList_plain hg fun K hK => by
    unfold Oper.wp execOp
    simp only [ho, Sem.run_bind, run_build w t _ cs hb, Result.andThen_ok, Sem.run_pure]
    exact hK _ _ h
theorem Rd_of_rowT {w : World} {g n : Nat} {l : List UInt8} {t : TypeId} {f : Nat × Nat} (h : w.heap[g]? = some (.cells (bysA l) t f)) (hn : l.length = n) (hm : n ≤ maxLen) : Rd w 1 (.slice (some ⟨g, 0, none⟩) n n) n (bys l) := by
  subst hn
  refine ⟨by rw [bys_length]; omega, .inr ⟨g, 0, l.length, rfl, lt_of_heap h, Nat.le_refl _, hm, fun j u hu => ?_⟩⟩
  rw [Nat.zero_add, cell_of_row w g j _ _ _ h]
  simpa [bysA] using hu
theorem below_kp {w x y : World} {C : Nat → Prop} (h : Below w.heap.size w x) (k : Kp C x y) (hC : ∀ j, C j → w.heap.size ≤ j) : Below w.heap.size w y :=
  ⟨k.os.trans h.os, k.tape.trans h.tape, k.output.trans h.output, Nat.le_trans h.size k.size, fun j hj => (k.block j (Nat.lt_of_lt_of_le hj h.size) (fun hc => by have := hC j hc; omega)).trans (h.block j hj)⟩
end Mem
namespace Ten
def K0 : List UInt8 := List.replicate 64 0
theorem keys0 : Tryd.prog.built 44 [] = some (bysA K0) := by kernel_rfl
theorem tab_a (d : Option Addr) : makeT [] [97] d 1 = ((0, 0), [⟨[97], 1, 0, d⟩]) := rfl
theorem tab_b (d e : Option Addr) : makeT [⟨[97], 1, 0, d⟩] [98] e 1 = ((0, 7), [⟨[97], 1, 0, d⟩]) := rfl
theorem tab_d (d : Option Addr) : delT [⟨[97], 1, 0, d⟩] [97] = ((0, 0), [⟨[97], 3, 0, none⟩]) := rfl
theorem tab_c (d : Option Addr) : makeT [⟨[97], 3, 0, none⟩] [97] d 1 = ((0, 9), [⟨[97], 3, 0, none⟩]) := rfl
theorem srt_nilT : Srt (([] : List Ten).map core) := by intro i j x y _ hx; simp at hx
theorem srt_one (x : Ten) : Srt ([x].map core) := by
  intro i j x y hij hx hy
  have := (List.getElem?_eq_some_iff.1 hy).1
  simp at this
  omega
theorem pl_nil (n : Nat) : ∀ x ∈ ([] : List Ten), ¬ x.state = 3 → 0 ≤ x.place ∧ x.place < (n : Int) := by intro x hx; simp at hx
theorem pl_one (x : Ten) (h : 0 ≤ x.place ∧ x.place < ((1 : Nat) : Int)) : ∀ y ∈ [x], ¬ y.state = 3 → 0 ≤ y.place ∧ y.place < ((1 : Nat) : Int) := by intro y hy; simp at hy; subst hy; intro _; exact h
set_option maxRecDepth 100000 in
set_option maxHeartbeats 1000000 in
theorem tables_any (w : World) (hS : Sha.Tabs w) : Calls Tryd.prog 14 #[] w fun e w' => e = .returned (.bool true) ∧ Below w.heap.size w w' := by
  have HS := Lib.hid hS
  clear hS
  go_enter Tryd.func14, Tryd.ntmps14
  go_wp2_with fail
  refine (newTab_any 1 (by decide) (by decide) w).mono ?_
  rintro e w1 ⟨rfl, hw⟩
  obtain ⟨sb, hsb⟩ : ∃ sb, sb = w.heap.size := ⟨_, rfl⟩
  have hs1 : w1.heap.size = sb + 1 := by rw [hw, hsb]; exact Array.size_push _
  have HBW : Hid (Below w.heap.size w w1) := Lib.hid (by rw [hw]; exact (Below.refl _ _).alloc (Nat.le_refl _) _)
  have HTT : Hid (TabAt w1 sb (sb + 1) none 0 (1 : Nat) []) := Lib.hid ⟨by rw [hw, hsb]; exact heap_alloc_new w _, by omega, Ow.nil _ _ _ _⟩
  have HSB := Lib.hid hsb
  have HSW : Hid (sb + 1 ≤ w1.heap.size) := Lib.hid (by omega)
  rw [← hsb]
  clear hw hsb hs1
  go_wp2_with (refine conv_markT rfl 24 _ rfl 5 Tryd.underlying24 Tryd.underlying5 _ 1 1 rfl #[.int .u8 97] (heap_alloc_new _ _) ?_; go_must (intro wm hrm hgm); go_must (refine Hid.out ?_))
  refine Lib.hid ?_
  have hbm : Below w1.heap.size w1 wm := ⟨hgm.os, hgm.tape, hgm.output, Nat.le_trans (Nat.le_of_lt (Array.getElem?_eq_some_iff.1 (heap_alloc_new w1 (.cells #[.int .u8 97] 5))).1) hgm.size, fun j hj => (hgm.block j (Nat.lt_trans hj (Array.getElem?_eq_some_iff.1 (heap_alloc_new w1 (.cells #[.int .u8 97] 5))).1) (fun e => by cases e; omega)).trans (Rg.heap_alloc_past w1 _ j hj)⟩
  have HRM : Hid (Rd wm 1 (.slice (some ⟨w1.heap.size, 0, none⟩) 1 1) 1 (bys [97])) := Lib.hid (Rd_of_rowT (l := [97]) hrm rfl (by decide))
  have HBM := Lib.hid hbm
  clear hbm hrm hgm
  go_wp2_with (refine l_buildT rfl 44 _ rfl (bysA K0) keys0 ?_)
  refine (limits_any wm).mono ?_
  rintro e wn ⟨rfl, hb⟩
  have HBN : Hid (Below w1.heap.size w1 wn) := Lib.hid (HBM.out.trans (hb.mono HBM.out.size))
  have HRN := Lib.hid (HRM.out.below hb)
  clear hb HBM HRM
  have HCR := Lib.hid (createT_any sb (sb + 1) none 0 1 [] (some ⟨w1.heap.size, 0, none⟩) 1 [97] K0 wn (HS.out.below (HBW.out.trans (HBN.out.mono HBW.out.size))) rfl (HTT.out.below HBN.out) (by simp) srt_nilT HRN.out (fun k hk he => by cases hk; exact absurd (HTT.out.2.2.lt _ he).2 (Nat.lt_irrefl _)) (Nat.le_trans HSW.out HBN.out.size) (by decide) (by decide) (pl_nil 1))
  go_wp2_with fail
  refine HCR.out.mono ?_
  rintro e w2 ⟨d2, q2, c2, rfl, hT, hkp, hgz⟩
  rw [tab_a] at hT ⊢
  have HSO : Hid (sb + 1 ≤ w2.heap.size) := Lib.hid (Nat.le_trans HSW.out (Nat.le_trans HBN.out.size hkp.size))
  have HBO : Hid (Below w.heap.size w w2) := Lib.hid (below_kp (HBW.out.trans (HBN.out.mono HBW.out.size)) hkp (fun j hj => by
    rcases hj with rfl | hj
    · rw [HSB.out]; exact Nat.le_refl _
    · have := (HTT.out.2.2.lt _ hj).1; rw [← HSB.out]; omega))
  have HTO := Lib.hid hT
  clear hT hkp hgz HCR HRN HBN HTT HBW HSW
  have HTT := HTO
  have HBW := HBO
  have HSW := HSO
  clear HTO HBO HSO
  go_wp2_with (refine conv_markT rfl 24 _ rfl 5 Tryd.underlying24 Tryd.underlying5 _ 1 1 rfl #[.int .u8 98] (heap_alloc_new _ _) ?_; go_must (intro wm hrm hgm); go_must (refine Hid.out ?_))
  refine Lib.hid ?_
  have hbm : Below w2.heap.size w2 wm := ⟨hgm.os, hgm.tape, hgm.output, Nat.le_trans (Nat.le_of_lt (Array.getElem?_eq_some_iff.1 (heap_alloc_new w2 (.cells #[.int .u8 98] 5))).1) hgm.size, fun j hj => (hgm.block j (Nat.lt_trans hj (Array.getElem?_eq_some_iff.1 (heap_alloc_new w2 (.cells #[.int .u8 98] 5))).1) (fun e => by cases e; omega)).trans (Rg.heap_alloc_past w2 _ j hj)⟩
  have HRM : Hid (Rd wm 1 (.slice (some ⟨w2.heap.size, 0, none⟩) 1 1) 1 (bys [98])) := Lib.hid (Rd_of_rowT (l := [98]) hrm rfl (by decide))
  have HBM := Lib.hid hbm
  clear hbm hrm hgm
  go_wp2_with (refine l_buildT rfl 44 _ rfl (bysA K0) keys0 ?_)
  refine (limits_any wm).mono ?_
  rintro e wn ⟨rfl, hb⟩
  have HBN : Hid (Below w2.heap.size w2 wn) := Lib.hid (HBM.out.trans (hb.mono HBM.out.size))
  have HRN := Lib.hid (HRM.out.below hb)
  clear hb HBM HRM
  have HCR := Lib.hid (createT_any sb (sb + 1) q2 c2 1 [⟨[97], 1, 0, some ⟨d2, 0, none⟩⟩] (some ⟨w2.heap.size, 0, none⟩) 1 [98] K0 wn (HS.out.below (HBW.out.trans (HBN.out.mono HBW.out.size))) rfl (HTT.out.below HBN.out) (by simp) (srt_one _) HRN.out (fun k hk he => by cases hk; exact absurd (HTT.out.2.2.lt _ he).2 (Nat.lt_irrefl _)) (Nat.le_trans HSW.out HBN.out.size) (by decide) (by decide) (pl_one _ ⟨by simp, by simp⟩))
  go_wp2_with fail
  refine HCR.out.mono ?_
  rintro e w3 ⟨d3, q3, c3, rfl, hT, hkp, hgz⟩
  rw [tab_b] at hT ⊢
  have HSO : Hid (sb + 1 ≤ w3.heap.size) := Lib.hid (Nat.le_trans HSW.out (Nat.le_trans HBN.out.size hkp.size))
  have HBO : Hid (Below w.heap.size w w3) := Lib.hid (below_kp (HBW.out.trans (HBN.out.mono HBW.out.size)) hkp (fun j hj => by
    rcases hj with rfl | hj
    · rw [HSB.out]; exact Nat.le_refl _
    · have := (HTT.out.2.2.lt _ hj).1; rw [← HSB.out]; omega))
  have HTO := Lib.hid hT
  clear hT hkp hgz HCR HRN HBN HTT HBW HSW
  have HTT := HTO
  have HBW := HBO
  have HSW := HSO
  clear HTO HBO HSO
  go_wp2_with (refine conv_markT rfl 24 _ rfl 5 Tryd.underlying24 Tryd.underlying5 _ 1 1 rfl #[.int .u8 97] (heap_alloc_new _ _) ?_; go_must (intro wm hrm hgm); go_must (refine Hid.out ?_))
  refine Lib.hid ?_
  have hbm : Below w3.heap.size w3 wm := ⟨hgm.os, hgm.tape, hgm.output, Nat.le_trans (Nat.le_of_lt (Array.getElem?_eq_some_iff.1 (heap_alloc_new w3 (.cells #[.int .u8 97] 5))).1) hgm.size, fun j hj => (hgm.block j (Nat.lt_trans hj (Array.getElem?_eq_some_iff.1 (heap_alloc_new w3 (.cells #[.int .u8 97] 5))).1) (fun e => by cases e; omega)).trans (Rg.heap_alloc_past w3 _ j hj)⟩
  have HRM : Hid (Rd wm 1 (.slice (some ⟨w3.heap.size, 0, none⟩) 1 1) 1 (bys [97])) := Lib.hid (Rd_of_rowT (l := [97]) hrm rfl (by decide))
  have HBM := Lib.hid hbm
  clear hbm hrm hgm
  have HDE := Lib.hid (delT_any sb (sb + 1) q3 c3 ((1 : Nat) : Int) [⟨[97], 1, 0, some ⟨d2, 0, none⟩⟩] (some ⟨w3.heap.size, 0, none⟩) 1 [97] wm (HTT.out.below HBM.out) (by simp) (srt_one _) HRM.out)
  go_wp2_with fail
  refine HDE.out.mono ?_
  rintro e w4 ⟨rfl, hT, hkp⟩
  rw [tab_d] at hT ⊢
  have HB4 : Hid (Below w.heap.size w w4) := Lib.hid (below_kp (HBW.out.trans (HBM.out.mono HBW.out.size)) hkp (fun j hj => by
    rcases hj with rfl | hj
    · rw [HSB.out]; exact Nat.le_refl _
    · have := (HTT.out.2.2.lt _ hj).1; rw [← HSB.out]; omega))
  have HS4 : Hid (sb + 1 ≤ w4.heap.size) := Lib.hid (Nat.le_trans HSW.out (Nat.le_trans HBM.out.size hkp.size))
  have HT4 := Lib.hid hT
  clear hT hkp HDE HRM HBM HTT HBW HSW
  have HTT := HT4
  have HBW := HB4
  have HSW := HS4
  clear HT4 HB4 HS4
  go_wp2_with (refine conv_markT rfl 24 _ rfl 5 Tryd.underlying24 Tryd.underlying5 _ 1 1 rfl #[.int .u8 97] (heap_alloc_new _ _) ?_; go_must (intro wm hrm hgm); go_must (refine Hid.out ?_))
  refine Lib.hid ?_
  have hbm : Below w4.heap.size w4 wm := ⟨hgm.os, hgm.tape, hgm.output, Nat.le_trans (Nat.le_of_lt (Array.getElem?_eq_some_iff.1 (heap_alloc_new w4 (.cells #[.int .u8 97] 5))).1) hgm.size, fun j hj => (hgm.block j (Nat.lt_trans hj (Array.getElem?_eq_some_iff.1 (heap_alloc_new w4 (.cells #[.int .u8 97] 5))).1) (fun e => by cases e; omega)).trans (Rg.heap_alloc_past w4 _ j hj)⟩
  have HRM : Hid (Rd wm 1 (.slice (some ⟨w4.heap.size, 0, none⟩) 1 1) 1 (bys [97])) := Lib.hid (Rd_of_rowT (l := [97]) hrm rfl (by decide))
  have HBM := Lib.hid hbm
  clear hbm hrm hgm
  go_wp2_with (refine l_buildT rfl 44 _ rfl (bysA K0) keys0 ?_)
  refine (limits_any wm).mono ?_
  rintro e wn ⟨rfl, hb⟩
  have HBN : Hid (Below w4.heap.size w4 wn) := Lib.hid (HBM.out.trans (hb.mono HBM.out.size))
  have HRN := Lib.hid (HRM.out.below hb)
  clear hb HBM HRM
  have HCR := Lib.hid (createT_any sb (sb + 1) q3 c3 1 [⟨[97], 3, 0, none⟩] (some ⟨w4.heap.size, 0, none⟩) 1 [97] K0 wn (HS.out.below (HBW.out.trans (HBN.out.mono HBW.out.size))) rfl (HTT.out.below HBN.out) (by simp) (srt_one _) HRN.out (fun k hk he => by cases hk; exact absurd (HTT.out.2.2.lt _ he).2 (Nat.lt_irrefl _)) (Nat.le_trans HSW.out HBN.out.size) (by decide) (by decide) (pl_one _ ⟨by simp, by simp⟩))
  go_wp2_with fail
  refine HCR.out.mono ?_
  rintro e w5 ⟨d5, q5, c5, rfl, hT, hkp, hgz⟩
  rw [tab_c] at hT ⊢
  have HSO : Hid (sb + 1 ≤ w5.heap.size) := Lib.hid (Nat.le_trans HSW.out (Nat.le_trans HBN.out.size hkp.size))
  have HBO : Hid (Below w.heap.size w w5) := Lib.hid (below_kp (HBW.out.trans (HBN.out.mono HBW.out.size)) hkp (fun j hj => by
    rcases hj with rfl | hj
    · rw [HSB.out]; exact Nat.le_refl _
    · have := (HTT.out.2.2.lt _ hj).1; rw [← HSB.out]; omega))
  have HTO := Lib.hid hT
  clear hT hkp hgz HCR HRN HBN HTT HBW HSW
  have HTT := HTO
  have HBW := HBO
  have HSW := HSO
  clear HTO HBO HSO
  go_wp2_with fail
  refine (roomT_any sb (sb + 1) q5 c5 ((1 : Nat) : Int) [⟨[97], 3, 0, none⟩] w5 HTT.out (by decide) (by decide) (by decide)).mono ?_
  rintro e w6 ⟨rfl, hb⟩
  have HB6 := Lib.hid (HBW.out.trans (hb.mono HBW.out.size))
  have HV : Hid ((((1 : Nat) : Int) - (idsT [⟨[97], 3, 0, none⟩] 1).length - (idsT [⟨[97], 3, 0, none⟩] 2).length) = 1) := Lib.hid rfl
  rw [HV.out]
  clear hb
  go_wp2_with fail
  go_ret
  exact ⟨rfl, HB6.out⟩
set_option maxRecDepth 100000 in
set_option maxHeartbeats 1000000 in
theorem tenantNil_any (q : Option Addr) (c : Nat) (l : List UInt8) (w : World) (hS : Sha.Tabs w) (hl : Rd w 1 (.slice q l.length c) l.length (bys l)) : Calls Tryd.prog 4 #[.slice q l.length c] w fun e w' => e = .returned (.bool true) ∧ Below w.heap.size w w' := by
  have hc : l.length ≤ c := by
    rcases hl.2 with ⟨hv, h0⟩ | ⟨b, off, cap, hv, _, hle, _⟩
    · injection hv with _ h1 h2; omega
    · injection hv with _ h1 h2; omega
  have HS := Lib.hid hS
  have HL := Lib.hid hl
  clear hS hl
  go_enter Tryd.func4, Tryd.ntmps4
  go_wp2_with fail
  refine (newTab_any 2 (by decide) (by decide) w).mono ?_
  rintro e w1 ⟨rfl, hw⟩
  obtain ⟨sb, hsb⟩ : ∃ sb, sb = w.heap.size := ⟨_, rfl⟩
  have HBW : Hid (Below w.heap.size w w1) := Lib.hid (by rw [hw]; exact (Below.refl _ _).alloc (Nat.le_refl _) _)
  have HTT : Hid (TabAt w1 sb (sb + 1) none 0 (2 : Nat) []) := Lib.hid ⟨by rw [hw, hsb]; exact heap_alloc_new w _, by omega, Ow.nil _ _ _ _⟩
  have HSB := Lib.hid hsb
  rw [← hsb]
  clear hw hsb
  by_cases h20 : 20 < l.length
  · have h2c : 20 ≤ c := by omega
    go_wp2_with fail
    refine (impT_nil sb q _ c w1).mono ?_
    rintro e w2 ⟨rfl, hw⟩
    obtain rfl : w1 = w2 := hw.symm
    clear hw
    go_wp2_with fail
    refine (tables_any w1 (HS.out.below HBW.out)).mono ?_
    rintro e w2 ⟨rfl, hb⟩
    have HT2 := Lib.hid (HTT.out.below hb)
    have HB2 := Lib.hid (HBW.out.trans (hb.mono HBW.out.size))
    clear hb
    go_wp2_with fail
    refine (roomT_any sb (sb + 1) none 0 ((2 : Nat) : Int) [] w2 HT2.out (by simp) (by decide) (by decide)).mono ?_
    rintro e w3 ⟨rfl, hb⟩
    have HV : Hid ((((2 : Nat) : Int) - (idsT [] 1).length - (idsT [] 2).length) = 2) := Lib.hid rfl
    rw [HV.out]
    have HB3 := Lib.hid (HB2.out.trans (hb.mono HB2.out.size))
    clear hb
    go_wp2_with fail
    go_ret
    exact ⟨rfl, HB3.out⟩
  · have hll : l.length ≤ 20 := by omega
    clear h20
    go_wp2_with fail
    refine (impT_nil sb q _ c w1).mono ?_
    rintro e w2 ⟨rfl, hw⟩
    obtain rfl : w1 = w2 := hw.symm
    clear hw
    go_wp2_with fail
    refine (tables_any w1 (HS.out.below HBW.out)).mono ?_
    rintro e w2 ⟨rfl, hb⟩
    have HT2 := Lib.hid (HTT.out.below hb)
    have HB2 := Lib.hid (HBW.out.trans (hb.mono HBW.out.size))
    clear hb
    go_wp2_with fail
    refine (roomT_any sb (sb + 1) none 0 ((2 : Nat) : Int) [] w2 HT2.out (by simp) (by decide) (by decide)).mono ?_
    rintro e w3 ⟨rfl, hb⟩
    have HV : Hid ((((2 : Nat) : Int) - (idsT [] 1).length - (idsT [] 2).length) = 2) := Lib.hid rfl
    rw [HV.out]
    have HB3 := Lib.hid (HB2.out.trans (hb.mono HB2.out.size))
    clear hb
    go_wp2_with fail
    go_ret
    exact ⟨rfl, HB3.out⟩
end Ten
end Go.Proofs.YtmkoiddfkanmiaaDoor

/- The walks of a table's Create and Import, and of custumallaw22.tables. -/
import Derived.Test.YtmkoiddfkanmiaaDoorTenG
namespace Go.Proofs.YtmkoiddfkanmiaaDoor
open Go.RowKit Bits Mem Sha Cad
namespace Mem
theorem freeze_rowT (w : World) (g : Nat) (C : Array Value) (e : TypeId) (h : w.heap[g]? = some (.cells C e (0, 0))) : (w.freeze { block := g, off := C.size } 1).heap[g]? = some (.cells C e (C.size, C.size + 1)) := by
  unfold World.freeze
  simp only [Nat.one_ne_zero, if_false, Array.getElem?_modify, if_true, h]
  simp
theorem freeze_grownT (w : World) (g k : Nat) : w.grownBy (w.freeze { block := g, off := k } 1) (some g) := by
  refine ⟨rfl, rfl, rfl, by unfold World.freeze; simp, fun j hj hne => ?_⟩
  unfold World.freeze
  simp only [Nat.one_ne_zero, if_false, Array.getElem?_modify]
  rw [if_neg (fun e => hne (by rw [e]))]
/-- '[]byte("abc")' of a literal that lies anywhere: its row gets the mark of a string's bytes. -/
theorem conv_markT {P : Program} {w : World} {ops : Array Oper} {rest : List Oper} {o : Oper} {a : Act} {Q : Exit → Act → World → Prop} (hgd : o.guard = none) (t : TypeId) (y : Operand) (ho : o.op = .convert t t y)
    (e : TypeId) (ht : P.underlying t = some (.slice e)) (he : P.underlying e = some (.int .u8)) (g n c : Nat) (hx : a.eval y = .slice (some ⟨g, 0, none⟩) n c) (C : Array Value) (hrow : w.heap[g]? = some (.cells C e (0, 0)))
    (h : ∀ w', w'.heap[g]? = some (.cells C e (C.size, C.size + 1)) → w.grownBy w' (some g) → wpList P ops Q rest (a.put o.dst (.slice (some ⟨g, 0, none⟩) n c)) w') : wpList P ops Q (o :: rest) a w := by
  refine wpList_plain hgd fun K hK => ?_
  have hsh : w.shape? g = some (e, C.size) := by unfold World.shape?; rw [hrow]
  have hrun : (convert t t (.slice (some ⟨g, 0, none⟩) n c)).run P w = .ok (.slice (some ⟨g, 0, none⟩) n c) (w.freeze { block := g, off := C.size } 1) := by
    simp [convert, run_underlying ht, run_underlying he, markStringish, hsh]
  unfold Oper.wp
  simp [execOp, ho, hx, hrun, Result.andThen]
  exact hK _ _ (h _ (freeze_rowT w g C e hrow) (freeze_grownT w g C.size))
/-- A literal's row, that nobody else has. -/
def LitT (B : Nat) (F : Nat → Prop) (y : World) (q : Option Addr) (C : Array Value) (e : TypeId) : Prop := ∃ g, q = some ⟨g, 0, none⟩ ∧ F g ∧ B ≤ g ∧ y.heap[g]? = some (.cells C e (0, 0))
end Mem
namespace Rq
theorem r_buildT {P : Program} {ops : Array Oper} {Q : Exit → Act → World → Prop} {Pr : Nat → Prop} {w : World} {spec : List Sp} {fin : List Nat} {tail : List Oper} {p : Nat → Rc.Par} {j : Nat} {o : Oper} {r : List Oper} {a : Act} (hl : look spec j = none) (hw : Region.wanted o (yielded ops a.tmps) = true) (t : TypeId) (parts : Array (Nat × Operand)) (ho : o.op = .build t parts) (cs : Array Value)
    (hb : P.built t (parts.map fun (i, x) => (i, a.eval x)).toList = some cs)
    (h : ∀ K : Act → Prop, (∀ a, wpSeq P ops Q Pr w spec fin tail p (j + 1) r a → K a) → K (a.put o.dst (.agg cs))) : wpSeq P ops Q Pr w spec fin tail p j (o :: r) a :=
  r_run _ hl hw (fun x _ => by unfold execOp; simp only [ho, Sem.run_bind, run_build x t _ cs hb, Result.andThen_ok, Sem.run_pure]) h
end Rq
namespace Ten
theorem TabAt.at {w x : World} {sb base : Nat} {q : Option Addr} {c : Nat} {pl : Int} {L : List Ten} (h : TabAt w sb base q c pl L) (hr : x.heap[sb]? = w.heap[sb]?) (hx : ∀ k, (Value.slice q L.length c).ownBlock = some k → x.heap[k]? = w.heap[k]?) : TabAt x sb base q c pl L :=
  ⟨hr.trans h.1, h.2.1, h.2.2.atM hx⟩
def makeT (L : List Ten) (id : List UInt8) (d : Option Addr) (n : Nat) : (Int × Int) × List Ten := if id.length < 1 ∨ 16 < id.length then ((0, 1), L) else putT L id d n
set_option maxRecDepth 100000 in
set_option maxHeartbeats 2000000 in
theorem createT_any (sb base : Nat) (q : Option Addr) (c n : Nat) (L : List Ten) (qi : Option Addr) (ci : Nat) (id : List UInt8) (K : List UInt8) (w : World) (hS : Sha.Tabs w) (hK : K.length = 64) (h : TabAt w sb base q c n L) (hl : L.length ≤ 1000) (hm : Srt (L.map core)) (hi : Rd w 1 (.slice qi id.length ci) id.length (bys id)) (hia : ∀ k, (Value.slice qi id.length ci).ownBlock = some k → ¬ (Value.slice q L.length c).ownBlock = some k)
    (hbs : base ≤ w.heap.size) (hp1 : 1 ≤ n) (hp2 : n ≤ 8) (hpl : ∀ x ∈ L, ¬ x.state = 3 → 0 ≤ x.place ∧ x.place < n) :
    Calls Tryd.prog 16 #[.pointer (some ⟨sb, 0, none⟩), .slice qi id.length ci, .agg (bysA K), .agg #[.int .i64 1, .int .i64 1, .int .i64 1]] w fun e w' => ∃ g q' c', e = .returned (.tuple #[.int .i64 (makeT L id (some ⟨g, 0, none⟩) n).1.1, .int .i64 (makeT L id (some ⟨g, 0, none⟩) n).1.2]) ∧ TabAt w' sb base q' c' n (makeT L id (some ⟨g, 0, none⟩) n).2 ∧ Kp (fun k => k = sb ∨ (Value.slice q L.length c).ownBlock = some k) w w' ∧ GrewT w q c L.length q' (makeT L id (some ⟨g, 0, none⟩) n).2.length c' := by
  have HS := Lib.hid hS
  have HI := Lib.hid hi
  have HT := Lib.hid h
  have HIA := Lib.hid hia
  have HP := Lib.hid hpl
  have HM := Lib.hid hm
  have HKL := Lib.hid hK
  obtain ⟨k, hk⟩ : ∃ k, k = w.heap.size := ⟨_, rfl⟩
  have hs1 : (w.alloc (.cells (bysA K) 44)).heap.size = k + 1 := by rw [hk]; exact Array.size_push _
  have hb1 : Below w.heap.size w (w.alloc (.cells (bysA K) 44)) := (Below.refl w.heap.size w).alloc (Nat.le_refl _) _
  obtain ⟨wl, hwl⟩ : ∃ wl, wl = (w.alloc (.cells (bysA K) 44)).alloc (.cells #[.int .i64 1, .int .i64 1, .int .i64 1] 46) := ⟨_, rfl⟩
  have hb2 : Below (k + 1) (w.alloc (.cells (bysA K) 44)) wl := by rw [hwl]; exact (Below.refl _ _).alloc (by omega) _
  have hrk : wl.heap[k]? = some (.cells (bysA K) 44 (0, 0)) := (hb2.block k (by omega)).trans (by rw [hk]; exact heap_alloc_new w _)
  have hrl : wl.heap[k + 1]? = some (.cells #[.int .i64 1, .int .i64 1, .int .i64 1] 46 (0, 0)) := by rw [hwl, ← hs1]; exact heap_alloc_new _ _
  have hbl : Below w.heap.size w wl := hb1.trans (hb2.mono (by omega))
  have hkl := (Array.getElem?_eq_some_iff.1 hrk).1
  have hll := (Array.getElem?_eq_some_iff.1 hrl).1
  have e0 : wl.cell? ⟨k + 1, 0, none⟩ = some (.int .i64 1) := (cell_of_row _ _ _ _ _ _ hrl).trans rfl
  have e1 : wl.cell? ⟨k + 1, 1, none⟩ = some (.int .i64 1) := (cell_of_row _ _ _ _ _ _ hrl).trans rfl
  have e2 : wl.cell? ⟨k + 1, 2, none⟩ = some (.int .i64 1) := (cell_of_row _ _ _ _ _ _ hrl).trans rfl
  have HWL := Lib.hid hwl
  have HBL := Lib.hid hbl
  have HKE := Lib.hid hk
  have HS1 := Lib.hid hs1
  have HLD : Hid (∀ x, Below wl.heap.size wl x → (Instr.loadAt 44 (.pointer (some ⟨k, 0, none⟩))).run Tryd.prog x = .ok (.agg (bysA K)) x) := Lib.hid (fun x hx => by
    have hrow := (hx.block k hkl).trans hrk
    have := run_loadAt_mid (P := Tryd.prog) x k 0 44 (bysA K).toList _ (fun j u hu => by rw [cell_of_row x k _ _ _ _ hrow, Nat.zero_add]; simpa using hu) Tryd.underlying44 rfl (by rw [Array.length_toList, bysA_size, hK]; kernel_rfl)
    simpa using this)
  have HLM : Hid ((Instr.loadAt 46 (.pointer (some ⟨k + 1, 0, none⟩))).run Tryd.prog wl = .ok (.agg #[.int .i64 1, .int .i64 1, .int .i64 1]) wl) := Lib.hid (by
    have := run_loadAt_mid (P := Tryd.prog) wl (k + 1) 0 46 [.int .i64 1, .int .i64 1, .int .i64 1] _ (fun j u hu => by rw [cell_of_row wl (k + 1) _ _ _ _ hrl, Nat.zero_add]; simpa using hu) Tryd.underlying46 rfl (by kernel_rfl)
    simpa using this)
  have HLK := Lib.hid (HLD.out wl (Below.refl _ _))
  clear hwl hbl hb1 hb2 hrk hrl hS hs1 hk h hi hia hpl hm hK e0 e1 e2 hkl hll HLD
  by_cases hbad : id.length < 1 ∨ 16 < id.length
  · have HV : Hid (∀ d, makeT L id d n = ((0, 1), L)) := Lib.hid (fun d => if_pos hbad)
    have HB := Lib.hid hbad
    clear hbad
    go_enter Tryd.func16, Tryd.ntmps16
    go_wp2_with ((try rw [← HWL.out, ← HKE.out]); first | (refine l_load rfl 44 _ rfl _ HLK.out ?_) | (refine l_load rfl 46 _ rfl _ HLM.out ?_))
    refine (newDir_bad qi ci id K wl HKL.out HB.out).mono ?_
    rintro e wd ⟨rfl, hb⟩
    have HBD := Lib.hid (HBL.out.trans (hb.mono HBL.out.size))
    clear hb
    go_wp2_with fail
    go_ret2
    exact ⟨0, q, c, by rw [HV.out]; rfl, by rw [HV.out]; exact HT.out.below HBD.out, Kp.of_below HBD.out, fun j hj => .inl (by rw [HV.out] at hj; exact hj)⟩
  · have HV : Hid (∀ d, makeT L id d n = putT L id d n) := Lib.hid (fun d => if_neg hbad)
    have HB : Hid (1 ≤ id.length ∧ id.length ≤ 16) := Lib.hid ⟨by omega, by omega⟩
    clear hbad
    go_enter Tryd.func16, Tryd.ntmps16
    go_wp2_with ((try rw [← HWL.out, ← HKE.out]); first | (refine l_load rfl 44 _ rfl _ HLK.out ?_) | (refine l_load rfl 46 _ rfl _ HLM.out ?_))
    refine (newDir_any qi ci id K wl (HS.out.below HBL.out) HKL.out HB.out.1 HB.out.2 (HI.out.below HBL.out)).mono ?_
    rintro e wd ⟨g, rfl, _, _, hb⟩
    have hbd := HBL.out.trans (hb.mono HBL.out.size)
    have HBD := Lib.hid hbd
    have HPUT := Lib.hid (putT_any sb base q c n L qi ci id (some ⟨g, 0, none⟩) wd (HT.out.below hbd) hl HM.out (HI.out.below hbd) HIA.out (Nat.le_trans hbs hbd.size) hp1 hp2 HP.out)
    clear hb hbd
    go_wp2_with fail
    refine HPUT.out.mono ?_
    rintro e w3 ⟨q', c', rfl, hT, hkp, hgr⟩
    have HT3 := Lib.hid hT
    have HK3 := Lib.hid hkp
    have HG3 := Lib.hid hgr
    clear hT hkp hgr
    go_wp2_with fail
    go_ret2
    exact ⟨g, q', c', by rw [HV.out]; rfl, by rw [HV.out]; exact HT3.out, (Kp.of_below HBD.out).trans HK3.out (fun _ _ h => h), fun j hj => by
      rw [HV.out] at hj
      rcases HG3.out j hj with h1 | h1
      · exact .inl h1
      · exact .inr (Nat.le_trans HBD.out.size h1)⟩
set_option maxRecDepth 100000 in
set_option maxHeartbeats 1000000 in
theorem impT_nil (sb : Nat) (q : Option Addr) (n c : Nat) (w : World) : Calls Tryd.prog 13 #[.pointer (some ⟨sb, 0, none⟩), .slice q n c, .pointer none] w fun e w' => e = .returned (.tuple #[.int .i64 0, .int .i64 1]) ∧ w' = w := by
  go_enter Tryd.func13, Tryd.ntmps13
  go_wp2_with fail
  go_ret2
  exact ⟨rfl, rfl⟩
end Ten
end Go.Proofs.YtmkoiddfkanmiaaDoor

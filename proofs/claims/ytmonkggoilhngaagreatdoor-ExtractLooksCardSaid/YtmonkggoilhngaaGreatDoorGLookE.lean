/- All that is summed up for an answer to a look. Conditions: none beyond the bounds of bytes. -/
import Derived.Test.YtmonkggoilhngaaGreatDoorGStdH
import Derived.Test.YtmonkggoilhngaaGreatDoorGLookA
import Derived.Deep.CutRange
namespace Go.Proofs.YtmonkggoilhngaaGreatDoor
set_option linter.unusedVariables false
set_option linter.unusedSimpArgs false
open Go.RowKit Bits Mem Sha
namespace Stn
open Ref (RdL All32 linkText nextLink firstLink range_list tin tout)
def ElsAt (w : World) (vs : List Value) (L : List (List UInt8)) : Prop := ∀ i, i < L.length → ∃ q c, vs[i]? = some (.slice q (L.getD i []).length c) ∧ Rd w 1 (.slice q (L.getD i []).length c) (L.getD i []).length (bys (L.getD i []))
structure TxR (w : World) (base g : Nat) (v : Value) (L : List (List UInt8)) (vs : List Value) : Prop where
  own : Ow w base 23 1 v L.length vs
  fr : ∀ u ∈ vs, Fr base u
  ap : ∀ u ∈ vs, ∀ k, u.ownBlock = some k → v.ownBlock ≠ some k
  nov : v.ownBlock ≠ some g
  nou : ∀ u ∈ vs, u.ownBlock ≠ some g
  els : ElsAt w vs L
theorem ElsAt.len {w : World} {vs : List Value} {L : List (List UInt8)} (hl : vs.length = L.length) (h : ElsAt w vs L) : ∀ u ∈ vs, ∃ q n c xs, u = .slice q n c ∧ Rd w 1 u n xs := by
  intro u hu
  obtain ⟨i, hi, rfl⟩ := List.mem_iff_getElem.1 hu
  obtain ⟨q, c, e, hr⟩ := h i (by omega)
  rw [List.getElem?_eq_getElem hi] at e
  rw [Option.some.inj e]
  exact ⟨q, _, c, _, rfl, hr⟩
theorem TxR.length {w : World} {base g : Nat} {v : Value} {L : List (List UInt8)} {vs : List Value} (h : TxR w base g v L vs) : vs.length = L.length := by
  have := h.own.1
  omega
theorem ElsAt.move {x y : World} {vs : List Value} {L : List (List UInt8)} (h : ElsAt x vs L) (hs : x.heap.size ≤ y.heap.size) (hx : ∀ u ∈ vs, ∀ k, u.ownBlock = some k → k < x.heap.size → y.heap[k]? = x.heap[k]?) : ElsAt y vs L := by
  intro i hi
  obtain ⟨q, c, e, hr⟩ := h i hi
  exact ⟨q, c, e, hr.at hs (fun k hk => hx _ (List.mem_of_getElem? e) k hk (Rd_own_lt hr hk))⟩
theorem TxR.move {x y : World} {base g : Nat} {v : Value} {L : List (List UInt8)} {vs : List Value} (h : TxR x base g v L vs) (hs : x.heap.size ≤ y.heap.size) (hx : ∀ k, k < x.heap.size → k ≠ g → y.heap[k]? = x.heap[k]?) : TxR y base g v L vs :=
  { h with
    own := h.own.atM (fun k hk => hx k (h.own.lt k hk).2 (fun e => h.nov (by rw [hk, e])))
    els := h.els.move hs (fun u hu k hk hlt => hx k hlt (fun e => h.nou u hu (by rw [hk, e]))) }
theorem TxR.below {x y : World} {base g : Nat} {v : Value} {L : List (List UInt8)} {vs : List Value} (h : TxR x base g v L vs) (hb : Below x.heap.size x y) : TxR y base g v L vs := h.move hb.size (fun k hk _ => hb.block k hk)
theorem TxR.app {x x' : World} {base g : Nat} {v v' : Value} {L L2 : List (List UInt8)} {vs vs2 : List Value} (h : TxR x base g v L vs) (hgx : g < x.heap.size) (e2 : ElsAt x vs2 L2) (l2 : vs2.length = L2.length) (f2 : ∀ u ∈ vs2, Fr base u) (a2 : ∀ u ∈ vs2, ∀ k, u.ownBlock = some k → v.ownBlock ≠ some k) (n2 : ∀ u ∈ vs2, u.ownBlock ≠ some g)
    (how : Ow x' base 23 1 v' (L.length + L2.length) (vs ++ vs2)) (hg : x.grownBy x' v.ownBlock) (hn : ∀ k, v'.ownBlock = some k → v.ownBlock = some k ∨ x.heap.size ≤ k) : TxR x' base g v' (L ++ L2) (vs ++ vs2) := by
  have lv := h.length
  have lt1 : ∀ u ∈ vs ++ vs2, ∀ k, u.ownBlock = some k → k < x.heap.size := by
    intro u hu k hk
    rcases List.mem_append.1 hu with hu | hu
    · obtain ⟨_, _, _, _, _, hr⟩ := ElsAt.len lv h.els u hu; exact Rd_own_lt hr hk
    · obtain ⟨_, _, _, _, _, hr⟩ := ElsAt.len l2 e2 u hu; exact Rd_own_lt hr hk
  have apv : ∀ u ∈ vs ++ vs2, ∀ k, u.ownBlock = some k → v.ownBlock ≠ some k := by
    intro u hu
    rcases List.mem_append.1 hu with hu | hu
    · exact h.ap u hu
    · exact a2 u hu
  have mv : ∀ u ∈ vs ++ vs2, ∀ k, u.ownBlock = some k → k < x.heap.size → x'.heap[k]? = x.heap[k]? := fun u hu k hk hlt => hg.block k hlt (fun e => apv u hu k hk e.symm)
  have e1' := h.els.move hg.size (fun u hu => mv u (List.mem_append_left _ hu))
  have e2' := e2.move hg.size (fun u hu => mv u (List.mem_append_right _ hu))
  refine ⟨by rw [List.length_append]; exact how, fun u hu => ?_, fun u hu k hk e => ?_, fun e => ?_, fun u hu => ?_, fun i hi => ?_⟩
  · rcases List.mem_append.1 hu with hu | hu
    · exact h.fr u hu
    · exact f2 u hu
  · rcases hn k e with e | e
    · exact apv u hu k hk e
    · have := lt1 u hu k hk; omega
  · rcases hn g e with e | e
    · exact h.nov e
    · omega
  · rcases List.mem_append.1 hu with hu | hu
    · exact h.nou u hu
    · exact n2 u hu
  · rw [List.length_append] at hi
    by_cases hlt : i < L.length
    · obtain ⟨q, c, e, hr⟩ := e1' i hlt
      have eL : (L ++ L2).getD i [] = L.getD i [] := by rw [List.getD_eq_getElem?_getD, List.getD_eq_getElem?_getD, List.getElem?_append_left hlt]
      rw [eL]
      exact ⟨q, c, by rw [List.getElem?_append_left (by omega)]; exact e, hr⟩
    · obtain ⟨q, c, e, hr⟩ := e2' (i - L.length) (by omega)
      have eL : (L ++ L2).getD i [] = L2.getD (i - L.length) [] := by rw [List.getD_eq_getElem?_getD, List.getD_eq_getElem?_getD, List.getElem?_append_right (by omega)]
      rw [eL]
      exact ⟨q, c, by rw [List.getElem?_append_right (by omega), lv]; exact e, hr⟩
theorem TxR.form {w : World} {base g : Nat} {v : Value} {L : List (List UInt8)} {vs : List Value} (h : TxR w base g v L vs) : ∃ q c, v = .slice q L.length c := Ow_form h.own
theorem l_apptx {ops : Array Oper} {rest : List Oper} {o : Oper} {a : Act} {Q : Exit → Act → World → Prop} {x : World} (hgd : o.guard = none) (s y : Operand) (ho : o.op = .call { callee := .builtin .append, args := #[s, y], argTypes := #[56, 56] })
    {base g : Nat} {v v2 : Value} {L L2 : List (List UInt8)} {vs vs2 : List Value} (hs : a.eval s = v) (hy : a.eval y = v2) (h : TxR x base g v L vs) (r2 : Rd x 1 v2 L2.length vs2) (hgx : g < x.heap.size) (hbx : base ≤ x.heap.size) (e2 : ElsAt x vs2 L2) (f2 : ∀ u ∈ vs2, Fr base u) (a2 : ∀ u ∈ vs2, ∀ k, u.ownBlock = some k → v.ownBlock ≠ some k) (n2 : ∀ u ∈ vs2, u.ownBlock ≠ some g)
    (hm : L.length + L2.length ≤ 100000)
    (K : ∀ v' x', TxR x' base g v' (L ++ L2) (vs ++ vs2) → x.grownBy x' v.ownBlock → wpList Tryz.prog ops Q rest (a.put o.dst v') x') : wpList Tryz.prog ops Q (o :: rest) a x := by
  obtain ⟨i0, hi0, hz0, hz1, hz2⟩ := parts3M Fnd.infoRow
  have l2 : vs2.length = L2.length := by have := r2.1; omega
  refine app_ow3 hgd s y _ _ ho base 23 i0 (.slice none 0 0) 1 24 Tryz.underlying56 hi0 hz0 hz1 hz2 (by rfl) v L.length vs hs h.own L2.length vs2 hy (Rd.src Tryz.underlying56 r2 (fun u hu => by obtain ⟨_, _, _, _, rfl, _⟩ := ElsAt.len l2 e2 u hu; rfl)) (by unfold maxLen; omega) (by omega) hbx ?_
  intro v' x' how hg hn
  exact K v' x' (h.app hgx e2 l2 f2 a2 n2 how hg hn) hg
end Stn
end Go.Proofs.YtmonkggoilhngaaGreatDoor
/- All that is summed up for an answer to a look: the walk. Conditions: none beyond the bounds of bytes. -/
namespace Go.Proofs.YtmonkggoilhngaaGreatDoor
set_option linter.unusedVariables false
set_option linter.unusedSimpArgs false
open Go.RowKit Bits Mem Sha
namespace Stn
open Ref (RdL All32 linkText nextLink firstLink range_list tin tout)
theorem TxR.partsF {w : World} {base g : Nat} {v : Value} {L : List (List UInt8)} {vs : List Value} (h : TxR w base g v L vs) : PartsF w base v L := ⟨vs, Rd.of_ow h.own, fun k hk => (h.own.lt k hk).1, h.fr, h.els⟩
theorem TxA.partsF {x' : World} {b : Nat} {v : Value} {W : List (List UInt8)} (h : TxA x' b v W) : PartsF x' b v W := by
  obtain ⟨vs, h1, h2⟩ := h
  refine ⟨vs, Rd.of_ow h1, fun k hk => (h1.lt k hk).1, fun u hu k hk => ?_, fun i hi => ?_⟩
  · obtain ⟨i, hi, rfl⟩ := List.mem_iff_getElem.1 hu
    have hl := (Rd.of_ow h1).1
    obtain ⟨q, c, e, h3⟩ := h2 i (by omega)
    rw [List.getElem?_eq_getElem hi] at e
    rw [Option.some.inj e] at hk
    exact (h3.lt k hk).1
  · obtain ⟨q, c, e, h3⟩ := h2 i hi
    exact ⟨q, c, e, Rd.of_ow h3⟩
theorem PartsF.app {x : World} {base g b : Nat} {v v2 : Value} {L L2 : List (List UInt8)} {vs : List Value} (h : TxR x base g v L vs) (hp : PartsF x b v2 L2) (hb : base ≤ b) (hg : g < b) (hv : ∀ k, v.ownBlock = some k → k < b) :
    ∃ vs2, Rd x 1 v2 L2.length vs2 ∧ ElsAt x vs2 L2 ∧ (∀ u ∈ vs2, Fr base u) ∧ (∀ u ∈ vs2, ∀ k, u.ownBlock = some k → v.ownBlock ≠ some k) ∧ ∀ u ∈ vs2, u.ownBlock ≠ some g := by
  obtain ⟨vs2, h1, h2, h3, h4⟩ := hp
  exact ⟨vs2, h1, h4, fun u hu => (h3 u hu).le hb, fun u hu k hk e => by have := h3 u hu k hk; have := hv k e; omega, fun u hu e => by have := h3 u hu g e; omega⟩
theorem TxR.grown {w2 x x' : World} {g : Nat} {v : Value} {L : List (List UInt8)} {vs : List Value} (h : TxR x w2.heap.size g v L vs) (hb : Below w2.heap.size w2 x) (hg : x.grownBy x' v.ownBlock) : Below w2.heap.size w2 x' :=
  ⟨hg.os.trans hb.os, hg.tape.trans hb.tape, hg.output.trans hb.output, Nat.le_trans hb.size hg.size, fun j hj => (hg.block j (Nat.lt_of_lt_of_le hj hb.size) (fun e => by have := (h.own.lt j e.symm).1; omega)).trans (hb.block j hj)⟩
theorem two_els {x : World} {g : Nat} {q1 q2 : Option Addr} {c1 c2 : Nat} {a b : List UInt8} {t : TypeId} (hr : x.heap[g]? = some (.cells #[.slice q1 a.length c1, .slice q2 b.length c2] t (0, 0))) (h1 : Rd x 1 (.slice q1 a.length c1) a.length (bys a)) (h2 : Rd x 1 (.slice q2 b.length c2) b.length (bys b)) :
    Rd x 1 (.slice (some ⟨g, 0, none⟩) 2 2) [a, b].length [.slice q1 a.length c1, .slice q2 b.length c2] ∧ ElsAt x [.slice q1 a.length c1, .slice q2 b.length c2] [a, b] := by
  refine ⟨⟨rfl, .inr ⟨g, 0, 2, rfl, lt_of_heap hr, Nat.le_refl _, by decide, fun j u hu => ?_⟩⟩, fun i hi => ?_⟩
  · rw [Nat.zero_add, cell_of_row _ _ _ _ _ _ hr, ← Array.getElem?_toList]
    exact hu
  · match i, hi with
    | 0, _ => exact ⟨q1, c1, rfl, h1⟩
    | 1, _ => exact ⟨q2, c2, rfl, h2⟩
    | i + 2, hi => exact absurd hi (by simp only [List.length_cons, List.length_nil]; omega)
set_option maxRecDepth 100000 in
set_option maxHeartbeats 4000000 in
theorem xlook_any {w : World} {qi : Option Addr} {ci : Nat} {id : List UInt8} {A F C' : Array Value} {f : Foun} {qf : Option Addr} {cf : Nat} {qv : Option Addr} {cv : Nat} {qr : Option Addr} {cr : Nat} {R : List (List UInt8)} {U C : Array Value} {qs : Option Addr} {cs : Nat} {S : List (List UInt8)} {there : Bool} {key val : List UInt8} {n : Int} {root sg log : List UInt8} {ql : Option Addr} {cl : Nat} {L : List (List UInt8)}
    (hS : Sha.Tabs w) (hid : Rd w 1 (.slice qi id.length ci) id.length (bys id)) (hil : id.length ≤ 1000000) (hA : LAns w A F U qr cr R) (hF : FoundIs w F f C' qf cf qv cv) (hU : UndIs w U C qs cs S there key val n root sg log ql cl L) (h0 : 0 ≤ f.n) (h1 : f.n ≤ 4611686018427387904) :
    Calls Tryz.prog 12 #[.slice qi id.length ci, .agg A] w fun e w' => ∃ q c, e = .returned (.slice q (lookT id f R S there key val).length c) ∧ PartsF w' w.heap.size (.slice q (lookT id f R S there key val).length c) (lookT id f R S there key val) ∧ Below w.heap.size w w' := by
  obtain ⟨i0, hi0, hz0, hz1, hz2⟩ := parts3M info8b
  obtain ⟨w1, hw1⟩ : ∃ w1, w1 = w.alloc (.cells A 45) := ⟨_, rfl⟩
  have hb1 : Below w.heap.size w w1 := by rw [hw1]; exact (Below.refl _ _).alloc (Nat.le_refl _) _
  have hr1 : w1.heap[w.heap.size]? = some (.cells A 45 (0, 0)) := by rw [hw1]; exact heap_alloc_new w _
  obtain ⟨w2, hw2⟩ : ∃ w2, w2 = w1.alloc (.cells F 34) := ⟨_, rfl⟩
  have hb12 : Below w1.heap.size w1 w2 := by rw [hw2]; exact (Below.refl _ _).alloc (Nat.le_refl _) _
  have hb2 := hb1.trans (hb12.mono hb1.size)
  have hr3 : w2.heap[w1.heap.size]? = some (.cells F 34 (0, 0)) := by rw [hw2]; exact heap_alloc_new w1 _
  have HLF : Hid ((Instr.loadAt 34 (.pointer (some ⟨w.heap.size, 3, none⟩))).run Tryz.prog w1 = .ok (.agg F) w1) := Lib.hid (hA.fouP.load hr1 Tryz.underlying34 rfl (by rw [hF.size]; exact infoFound))
  have HIF : Hid ((Tryz.prog.info? 34).map (·.size) = some F.size) := Lib.hid (by rw [hF.size]; exact infoFound)
  have HSF : Hid ((Tryz.zeroCells34).size = F.size) := Lib.hid (by rw [hF.size]; decide +kernel)
  have hone : F.all (·.oneCell') = true := by
    have := hA.typ.all1
    rw [Array.all_eq_true_iff_forall_mem] at this ⊢
    intro v hv
    obtain ⟨j, hj, rfl⟩ := Array.mem_iff_getElem.1 hv
    exact this _ (Array.mem_of_getElem? (hA.fouP j _ (Array.getElem?_eq_getElem hj)))
  have HOF := Lib.hid hone
  obtain ⟨n0, hn0⟩ : ∃ n0, n0 = f.n := ⟨_, rfl⟩
  obtain ⟨rt, hrt⟩ : ∃ l, l = f.root := ⟨_, rfl⟩
  obtain ⟨ah, hah⟩ : ∃ l, l = f.ahead := ⟨_, rfl⟩
  obtain ⟨lk, hlk⟩ : ∃ l, l = f.link := ⟨_, rfl⟩
  have hrl : rt.length = 32 := by rw [hrt]; exact hF.ok.rootL
  have hal : ah.length = 32 := by rw [hah]; exact hF.ok.aheadL
  have hkl : lk.length = 32 := by rw [hlk]; exact hF.ok.linkL
  have HLN : Hid ((Instr.loadAt 3 (.pointer (some ⟨w1.heap.size, 0, none⟩))).run Tryz.prog w2 = .ok (.int .i64 n0) w2) := Lib.hid (load_rowI ((cell_of_row _ _ _ _ _ _ hr3).trans (by rw [hn0]; exact hF.c0)))
  have HLR : Hid ((Instr.loadAt 22 (.pointer (some ⟨w1.heap.size, 246, none⟩))).run Tryz.prog w2 = .ok (.agg (bysA rt)) w2) := Lib.hid (PartAt.load (by rw [hrt]; exact hF.rootP) hr3 Tryz.underlying22 rfl (info32r _ hrl))
  have HLA : Hid ((Instr.loadAt 22 (.pointer (some ⟨w1.heap.size, 310, none⟩))).run Tryz.prog w2 = .ok (.agg (bysA ah)) w2) := Lib.hid (PartAt.load (by rw [hah]; exact hF.aheadP) hr3 Tryz.underlying22 rfl (info32r _ hal))
  have HTX := Lib.hid (Ref.ctext_any qi ci id n0 rt ah w2 (hid.below hb2) hil hrl hal)
  obtain ⟨T0, hT0⟩ : ∃ T, T = firstT id f := ⟨_, rfl⟩
  obtain ⟨T1, hT1⟩ : ∃ T, T = linkText id n0 rt ah := ⟨_, rfl⟩
  have hT0e : T0 = if n0 = 0 then 4 :: id else T1 := by rw [hT1, hT0, hn0, hrt, hah]; rfl
  rw [← hT1] at HTX
  have HB2 := Lib.hid hb2
  have HR1 := Lib.hid (Rp.row_le hb12 hr1)
  have HR3 := Lib.hid hr3
  have HS2 := Lib.hid (hS.below hb2)
  have HF2 := Lib.hid (hF.below hb2)
  have HU2 := Lib.hid (hU.below hb2)
  have HA2 := Lib.hid (hA.below hb2)
  have HID2 := Lib.hid (hid.below hb2)
  have HN0 := Lib.hid hn0
  have HLK := Lib.hid hlk
  have HLKL := Lib.hid hkl
  have HT0 := Lib.hid hT0
  have HT0E := Lib.hid hT0e
  have HW1 := Lib.hid hw1
  have HW2 := Lib.hid hw2
  have hsz1 : w.heap.size < w1.heap.size := lt_of_heap hr1
  rw [← hn0] at h0 h1
  clear hw1 hw2 hb1 hb12 hb2 hr1 hr3 hS hF hU hA hid hone hn0 hrt hah hlk hrl hal hkl hT0 hT0e hT1
  go_enter Tryz.func12, Tryz.ntmps12
  go_upto_region 1 with fail
  rw [← HW1.out]
  go_upto_region 2 with (first | (refine l_load rfl _ _ rfl _ HLF.out ?_) | (refine Rg.store_row_new rfl 34 _ _ rfl w1.heap.size rfl rfl 34 _ F rfl HIF.out HSF.out HOF.out ?_))
  rw [← HW2.out]
  obtain ⟨g1, hg1⟩ : ∃ g, g = w1.heap.size := ⟨_, rfl⟩
  rw [← hg1] at HR3 hsz1 HLN HLR HLA ⊢
  clear hg1 HW1 HW2 HLF HIF HSF HOF
  go_wp2_with (first | (refine l_loadG 3 _ rfl (.pointer (some ⟨g1, 0, none⟩)) rfl _ HLN.out (by kernel_rfl) ?_; refine Hid.out ?_))
  refine Lib.hid ?_
  go_wp2_with (first | (refine l_loadG 22 _ rfl (.pointer (some ⟨g1, 246, none⟩)) rfl _ HLR.out (by kernel_rfl) ?_; refine Hid.out ?_))
  refine Lib.hid ?_
  go_wp2_with (first | (refine l_loadG 22 _ rfl (.pointer (some ⟨g1, 310, none⟩)) rfl _ HLA.out (by kernel_rfl) ?_; refine Hid.out ?_))
  refine Lib.hid ?_
  go_wp2_with fail
  refine HTX.out.mono ?_
  rintro e w3 ⟨v3, rfl, how3, hb3⟩
  obtain ⟨q3, c3, rfl⟩ := Ow_form how3
  have HO3 := Lib.hid how3
  have HB3 := Lib.hid hb3
  have c0 : w3.cell? ⟨g1, 0, none⟩ = some (.int .i64 n0) := (cell_of_row _ _ _ _ _ _ (Rp.row_le hb3 HR3.out)).trans (by rw [HN0.out]; exact HF2.out.c0)
  clear how3 hb3 HTX HLN HLR HLA
  go_upto_if 24 with fail
  go_cut [6] from 25 to 27 (fun v6 wc => ∃ q c, v6 = .slice q T0.length c ∧ Hid (Ow wc w2.heap.size 5 1 (.slice q T0.length c) T0.length (bys T0)) ∧ Hid (Below w2.heap.size w2 wc))
  case first =>
    by_cases hn : n0 = 0
    · subst hn
      have e0 : T0 = 4 :: id := by rw [HT0E.out, if_pos rfl]
      have el : 1 + id.length = T0.length := by rw [e0, List.length_cons]; omega
      obtain ⟨wl, hwl⟩ : ∃ wl, wl = w3.alloc (.cells #[.int .u8 4] 5) := ⟨_, rfl⟩
      have hbl : Below w3.heap.size w3 wl := by rw [hwl]; exact (Below.refl _ _).alloc (Nat.le_refl _) _
      have hb2l := HB3.out.trans (hbl.mono HB3.out.size)
      have HOL : Hid (Ow wl w2.heap.size 5 1 (.slice (some ⟨w3.heap.size, 0, none⟩) 1 1) 1 (bys [4])) := Lib.hid (by rw [hwl]; exact (Ow.lit1 w3 4).base_le HB3.out.size)
      have HSRC := Lib.hid (Rd.src Tryz.underlying23 (HID2.out.below hb2l) (bys_one _))
      have HB2L := Lib.hid hb2l
      have HWL := Lib.hid hwl
      have HEL := Lib.hid el
      have HE0 := Lib.hid e0
      clear hwl hbl hb2l el e0
      go_wp2_with (rw [← HWL.out]; refine Hid.out ?_)
      refine Lib.hid ?_
      go_simp
      refine app_ow3 rfl _ _ 23 23 rfl w2.heap.size 5 i0 (.int .u8 0) 1 1 Tryz.underlying23 hi0 hz0 hz1 hz2 (by rfl) _ 1 _ rfl HOL.out id.length _ rfl HSRC.out (by unfold maxLen; omega) (by omega) HB2L.out.size ?_; intro v6 w6 how6 hg6 hn6; rw [HEL.out, show bys [4] ++ bys id = bys T0 by rw [HE0.out]; rfl] at how6; have hb6 : Below w2.heap.size w2 w6 := ⟨hg6.os.trans HB2L.out.os, hg6.tape.trans HB2L.out.tape, hg6.output.trans HB2L.out.output, Nat.le_trans HB2L.out.size hg6.size, fun k hk => (hg6.block k (Nat.lt_of_lt_of_le hk HB2L.out.size) (fun e => by have := (HOL.out.lt k e.symm).1; omega)).trans (HB2L.out.block k hk)⟩; obtain ⟨q6, c6, rfl⟩ := Ow_form how6; have HO6 := Lib.hid how6; have HB6 := Lib.hid hb6; clear how6 hg6 hn6 hb6
      go_wp2_with fail
      go_meet
      case rel => exact ⟨q6, c6, rfl, HO6, HB6⟩
    · have hne : (n0 == 0) = false := by simpa using hn
      have e0 : T0 = T1 := by rw [HT0E.out, if_neg hn]
      have HREL : Hid (∃ q c, Value.slice q3 T1.length c3 = .slice q T0.length c ∧ Hid (Ow w3 w2.heap.size 5 1 (.slice q T0.length c) T0.length (bys T0)) ∧ Hid (Below w2.heap.size w2 w3)) := Lib.hid ⟨q3, c3, by rw [e0], by rw [e0]; exact HO3, HB3⟩
      clear e0
      go_wp2_with fail
      go_meet
      case rel => exact HREL.out
  case rest =>
    obtain ⟨q0, c0', rfl, HO, HBC⟩ := hcut
    clear c0 HO3 HB3
    obtain ⟨v, hv⟩ : ∃ v, v = Value.slice q0 T0.length c0' := ⟨_, rfl⟩
    obtain ⟨w5, hw5⟩ : ∃ w5, w5 = wc.alloc (.cells #[v] 23) := ⟨_, rfl⟩
    have hb5 : Below wc.heap.size wc w5 := by rw [hw5]; exact (Below.refl _ _).alloc (Nat.le_refl _) _
    have hs5 : w5.heap.size = wc.heap.size + 1 := by rw [hw5]; simp
    have ho5 : Ow w5 w2.heap.size 23 1 (.slice (some ⟨wc.heap.size, 0, none⟩) 1 1) 1 [v] := by rw [hw5]; exact Ow.lit wc #[v] 23 1 1 w2.heap.size HBC.out.size (by decide) (by rw [hv]; rfl)
    obtain ⟨M0, hM0⟩ : ∃ M, M = memA (.slice qi id.length ci) n0 lk := ⟨_, rfl⟩
    have HBD := Lib.hid (mem3 qi id.length ci n0 HLKL.out)
    rw [← hM0] at HBD
    have hM0s : M0.size = 35 := by rw [hM0]; exact memA_size HLKL.out
    have HIM : Hid ((Tryz.prog.info? 43).map (·.size) = some M0.size) := Lib.hid (by rw [hM0s]; exact infoMem)
    have HSM : Hid (35 = M0.size) := Lib.hid hM0s.symm
    have HOM : Hid (M0.all (·.oneCell') = true) := Lib.hid (by rw [hM0]; exact memA_one rfl _ _)
    obtain ⟨w6, hw6⟩ : ∃ w6, w6 = w5.alloc (.cells M0 43) := ⟨_, rfl⟩
    have hb6 : Below w5.heap.size w5 w6 := by rw [hw6]; exact (Below.refl _ _).alloc (Nat.le_refl _) _
    have hr6 : w6.heap[w5.heap.size]? = some (.cells M0 43 (0, 0)) := by rw [hw6]; exact heap_alloc_new w5 _
    have hb25 : Below w2.heap.size w2 w5 := HBC.out.trans (hb5.mono HBC.out.size)
    have hb26 : Below w2.heap.size w2 w6 := hb25.trans (hb6.mono hb25.size)
    have hr35 := Rp.row_le hb25 HR3.out
    have HLN5 : Hid ((Instr.loadAt 3 (.pointer (some ⟨g1, 0, none⟩))).run Tryz.prog w5 = .ok (.int .i64 n0) w5) := Lib.hid (load_rowI ((cell_of_row _ _ _ _ _ _ hr35).trans (by rw [HN0.out]; exact HF2.out.c0)))
    have HLL5 : Hid ((Instr.loadAt 22 (.pointer (some ⟨g1, 278, none⟩))).run Tryz.prog w5 = .ok (.agg (bysA lk)) w5) := Lib.hid (PartAt.load (by rw [HLK.out]; exact HF2.out.linkP) hr35 Tryz.underlying22 rfl (info32r _ HLKL.out))
    have HLL6 : Hid ((Instr.loadAt 27 (.pointer (some ⟨w.heap.size, 378, none⟩))).run Tryz.prog w6 = .ok (.slice qr R.length cr) w6) := Lib.hid (load_rowS ((cell_of_row _ _ _ _ _ _ (Rp.row_le hb26 HR1.out)).trans HA2.out.c378))
    have htx : TxR w6 w2.heap.size w5.heap.size (.slice (some ⟨wc.heap.size, 0, none⟩) 1 1) (T0 :: lksT id n0 lk (R.take 0)) [v] := by
      have hlt : ∀ k, v.ownBlock = some k → w2.heap.size ≤ k ∧ k < wc.heap.size := fun k hk => by rw [hv] at hk; exact HO.out.lt k hk
      refine ⟨ho5.below hb6, fun u hu k hk => ?_, fun u hu k hk e => ?_, fun e => ?_, fun u hu e => ?_, fun i hi => ?_⟩
      · obtain rfl := List.mem_singleton.1 hu; exact (hlt k hk).1
      · obtain rfl := List.mem_singleton.1 hu
        have := (hlt k hk).2
        have e : some wc.heap.size = some k := e
        have := Option.some.inj e
        omega
      · have e : some wc.heap.size = some w5.heap.size := e
        have := Option.some.inj e
        omega
      · obtain rfl := List.mem_singleton.1 hu
        have := (hlt _ e).2
        omega
      · obtain rfl : i = 0 := by simp [lksT] at hi; omega
        exact ⟨q0, c0', by rw [hv]; rfl, ((Rd.of_ow HO.out).below hb5).below hb6⟩
    have HREL : Hid (∃ (k g cj : Nat), k ≤ R.length ∧ Value.slice (some ⟨wc.heap.size, 0, none⟩) 1 1 = .slice (some ⟨g, 0, none⟩) (k + 1) cj ∧ Value.int .i64 0 = .int .i64 (k : Int) ∧ Hid (∃ vs, TxR w6 w2.heap.size w5.heap.size (.slice (some ⟨g, 0, none⟩) (k + 1) cj) (T0 :: lksT id n0 lk (R.take k)) vs) ∧ Hid (w6.heap[w5.heap.size]? = some (.cells (memA (.slice qi id.length ci) (n0 + (k : Int)) (lksL id n0 lk (R.take k))) 43 (0, 0))) ∧ Hid (Below w2.heap.size w2 w6)) :=
      Lib.hid ⟨0, wc.heap.size, 1, Nat.zero_le _, rfl, rfl, Lib.hid ⟨_, htx⟩, Lib.hid (by rw [hr6, hM0]; simp [lksL]), Lib.hid hb26⟩
    have HW5 := Lib.hid hw5
    have HW6 := Lib.hid hw6
    have HB25 := Lib.hid hb25
    subst hv
    clear hw5 hb5 hs5 ho5 hM0 hM0s hw6 hb6 hr6 hb25 hb26 hr35 htx HO HBC
    go_upto_region 6 with fail
    rw [← HW5.out]
    go_wp2_with (first | (refine l_loadG 3 _ rfl (.pointer (some ⟨g1, 0, none⟩)) rfl _ HLN5.out (by kernel_rfl) ?_; refine Hid.out ?_))
    refine Lib.hid ?_
    go_wp2_with (first | (refine l_loadG 22 _ rfl (.pointer (some ⟨g1, 278, none⟩)) rfl _ HLL5.out (by kernel_rfl) ?_; refine Hid.out ?_))
    refine Lib.hid ?_
    refine l_buildT rfl 43 #[(0, .tmp 30), (2, .tmp 32), (3, .tmp 34)] rfl M0 (by simp only [List.map_toArray, List.map_cons, List.map_nil]; exact HBD.out) ?_
    go_simp
    go_upto_region 7 with (refine Rg.store_row_new rfl 43 _ _ rfl w5.heap.size rfl rfl 43 _ M0 rfl HIM.out HSM.out HOM.out ?_)
    rw [← HW6.out]
    obtain ⟨g2, hg2⟩ : ∃ g, g = w5.heap.size := ⟨_, rfl⟩
    have hg2le : w2.heap.size ≤ g2 := by rw [hg2]; exact HB25.out.size
    rw [← hg2] at HREL ⊢
    clear hg2 HB25 HW5 HW6 HLN5 HLL5 HBD HIM HSM HOM
    go_wp2_with (refine l_load rfl _ _ rfl _ HLL6.out ?_)
    go_loopw [7, 39] (fun o v wr => ∃ (k g cj : Nat), k ≤ R.length ∧ o = .slice (some ⟨g, 0, none⟩) (k + 1) cj ∧ v = .int .i64 (k : Int) ∧ Hid (∃ vs, TxR wr w2.heap.size g2 (.slice (some ⟨g, 0, none⟩) (k + 1) cj) (T0 :: lksT id n0 lk (R.take k)) vs) ∧ Hid (wr.heap[g2]? = some (.cells (memA (.slice qi id.length ci) (n0 + (k : Int)) (lksL id n0 lk (R.take k))) 43 (0, 0))) ∧ Hid (Below w2.heap.size w2 wr)) (fun _ v _ => (R.length - (intOf v).toNat))
    case atStart => exact HREL.out
    case round =>
      obtain ⟨k, g, cj, hk, rfl, rfl, HTX, HG2, HB⟩ := hrel
      clear HREL HLL6
      by_cases hlt : k < R.length
      · have hltI : (k : Int) < (R.length : Int) := by omega
        obtain ⟨bp, op, hqe, hbp, hxl1, hxl2, hload⟩ := (HA2.out.row.below HB.out).load hlt
        subst hqe
        obtain ⟨vs, htx⟩ := HTX.out
        have hfw := HA2.out.few
        have hll : (T0 :: lksT id n0 lk (R.take k)).length = k + 1 := by rw [List.length_cons, lksT_length, List.length_take]; omega
        obtain ⟨LL, hLL⟩ : ∃ l, l = T0 :: lksT id n0 lk (R.take k) := ⟨_, rfl⟩
        rw [← hLL] at htx hll
        obtain ⟨X, hX⟩ : ∃ X, X = R.getD k [] := ⟨_, rfl⟩
        rw [← hX] at hload
        have HXL : Hid (X.length = 32) := Lib.hid (by
          rw [hX, List.getD_eq_getElem?_getD, List.getElem?_eq_getElem hlt]
          exact HA2.out.row.1 _ (List.getElem_mem hlt))
        obtain ⟨B, hBk⟩ : ∃ B, B = lksL id n0 lk (R.take k) := ⟨_, rfl⟩
        rw [← hBk] at HG2
        have HBL : Hid (B.length = 32) := Lib.hid (by rw [hBk]; exact lksL_length _ _ _ _ HLKL.out)
        obtain ⟨T, hT⟩ : ∃ T, T = linkText id (n0 + k + 1) X B := ⟨_, rfl⟩
        have hTl : T.length ≤ 2000000 := by rw [hT, Ref.linkText_length _ _ _ _ HXL.out HBL.out]; omega
        obtain ⟨N, hNk⟩ : ∃ N, N = sha T := ⟨_, rfl⟩
        have HNL : Hid (N.length = 32) := Lib.hid (by rw [hNk]; exact sha_length _)
        have HNE : Hid (lksL id n0 lk (R.take (k + 1)) = N) := Lib.hid (by rw [lks_take hlt, hNk, hT, hX, hBk]; rfl)
        have HTE : Hid (T0 :: lksT id n0 lk (R.take (k + 1)) = LL ++ [T]) := Lib.hid (by rw [lksT_take hlt, hLL, hT, hX, hBk]; rfl)
        have HLX : Hid ((Instr.loadAt 22 (.pointer (some ⟨bp, op + k * 32, none⟩))).run Tryz.prog wr = .ok (.agg (bysA X)) wr) := Lib.hid (hload wr (Below.refl _ _))
        have HIXX : Hid ((Tryz.prog.info? 22).map (·.size) = some (bysA X).size) := Lib.hid (info32r X HXL.out)
        have HSXX : Hid (32 = (bysA X).size) := Lib.hid (by rw [bysA_size, HXL.out])
        have HINN := Lib.hid (info32r N HNL.out)
        have HIBB := Lib.hid (info32r B HBL.out)
        obtain ⟨iv, hiv⟩ : ∃ v, v = Value.slice qi id.length ci := ⟨_, rfl⟩
        have HG2' := HG2.out
        rw [← hiv] at HG2'
        -- the root's own row
        obtain ⟨wa, hwa⟩ : ∃ wa, wa = wr.alloc (.cells (bysA X) 22) := ⟨_, rfl⟩
        have hba : Below wr.heap.size wr wa := by rw [hwa]; exact (Below.refl _ _).alloc (Nat.le_refl _) _
        have hra : wa.heap[wr.heap.size]? = some (.cells (bysA X) 22 (0, 0)) := by rw [hwa]; exact heap_alloc_new wr _
        have hga := Rp.row_le hba HG2'
        have hg2 := lt_of_heap HG2'
        have ca : wa.cell? ⟨g2, 2, none⟩ = some (.int .i64 (n0 + (k : Int))) := (cell_of_row _ _ _ _ _ _ hga).trans memA_c2
        have fa : wa.frozen? ⟨g2, 2, none⟩ = false := frozen_of_row _ _ _ _ _ hga
        have ha := htx.below hba
        -- the number stored
        obtain ⟨wb, hwb⟩ : ∃ wb, wb = wa.setCell ⟨g2, 2, none⟩ (.int .i64 (n0 + (k : Int) + 1)) := ⟨_, rfl⟩
        have hwb2 : wb = wa.setRow g2 (memA iv (n0 + (k : Int) + 1) B) := by
          rw [hwb, setCell_eq_setRow wa g2 2 _ _ _ _ hga, memA_set]
        have hrb : wb.heap[g2]? = some (.cells (memA iv (n0 + (k : Int) + 1) B) 43 (0, 0)) := by rw [hwb2]; exact setRow_heap wa g2 _ _ _ _ hga
        have hob : ∀ j, j ≠ g2 → wb.heap[j]? = wa.heap[j]? := fun j hj => by rw [hwb2]; exact setRow_heap_ne hj
        have hsb : wb.heap.size = wa.heap.size := by rw [hwb2]; simp [World.setRow]
        have hg2b : w2.heap.size ≤ g2 := hg2le
        have hbb : Below w2.heap.size w2 wb := by rw [hwb2]; exact Rg.below_setRow (HB.out.trans (hba.mono HB.out.size)) hg2b _
        have htb := ha.move (y := wb) (by omega) (fun j _ hj => hob j hj)
        have cb : wb.cell? ⟨g2, 2, none⟩ = some (.int .i64 (n0 + (k : Int) + 1)) := (cell_of_row _ _ _ _ _ _ hrb).trans memA_c2
        have HLB : Hid ((Instr.loadAt 22 (.pointer (some ⟨g2, 3, none⟩))).run Tryz.prog wb = .ok (.agg (bysA B)) wb) := Lib.hid (memA_linkP.load hrb Tryz.underlying22 rfl HIBB.out)
        have hrxb : wb.heap[wr.heap.size]? = some (.cells (bysA X) 22 (0, 0)) := (hob _ (by omega)).trans hra
        have HLXB : Hid ((Instr.loadAt 22 (.pointer (some ⟨wr.heap.size, 0, none⟩))).run Tryz.prog wb = .ok (.agg (bysA X)) wb) := Lib.hid ((PartAt.self _).load hrxb Tryz.underlying22 rfl HIXX.out)
        have HCT : Hid (Calls Tryz.prog 28 #[.slice qi id.length ci, .int .i64 (n0 + (k : Int) + 1), .agg (bysA X), .agg (bysA B)] wb fun e w' => ∃ v, e = .returned v ∧ Ow w' wb.heap.size 5 1 v T.length (bys T) ∧ Below wb.heap.size wb w') := Lib.hid (by
          rw [hT]
          exact Ref.ctext_any qi ci id (n0 + k + 1) X B wb (HID2.out.below hbb) hil HXL.out HBL.out)
        have HRB := Lib.hid hrb
        have HBB := Lib.hid hbb
        have HTB := Lib.hid htb
        have HG2B := Lib.hid hg2b
        have hwr : IntKind.i64.wrap (n0 + (k : Int) + 1) = n0 + (k : Int) + 1 := IntWalk.i64_in _ (by omega)
        have HWA := Lib.hid hwa
        have HWB := Lib.hid hwb
        have HIV := Lib.hid hiv
        have HNK := Lib.hid hNk
        have HTL := Lib.hid hTl
        have HLL := Lib.hid hll
        have HG2S : Hid (g2 < wb.heap.size) := Lib.hid (lt_of_heap hrb)
        clear hload hX hBk hNk hT hTl hLL hll hwa hba hra hga hwb hwb2 hrb hob hsb hbb hrxb HG2 HG2' hg2 hg2b htx ha htb hiv HTX HB
        go_upto_region 10 with (first | (refine l_load rfl _ _ rfl _ HLX.out ?_) | (refine Rg.store_row_new rfl 22 _ _ rfl wr.heap.size rfl rfl 22 _ (bysA X) rfl HIXX.out HSXX.out (bysA_one _) ?_))
        rw [← HWA.out]
        go_upto_region 11 with fail
        rw [← HWB.out]
        clear ca fa HWA HWB HLX
        go_wp2_with (first | (refine l_load rfl _ _ rfl (.agg (bysA X)) HLXB.out ?_) | (refine l_load rfl _ _ rfl (.agg (bysA B)) HLB.out ?_))
        refine HCT.out.mono ?_
        rintro e wd ⟨v11, rfl, how, hbd⟩
        obtain ⟨q11, c11, rfl⟩ := Ow_form how
        have hown : ∀ j, (Value.slice q11 T.length c11).ownBlock = some j → wb.heap.size ≤ j ∧ j < wd.heap.size := fun j hj => how.lt j hj
        obtain ⟨we, hwe⟩ : ∃ we, we = wd.alloc (.cells #[.slice q11 T.length c11] 23) := ⟨_, rfl⟩
        have hbe : Below wd.heap.size wd we := by rw [hwe]; exact (Below.refl _ _).alloc (Nat.le_refl _) _
        have hlit : Rd we 1 (.slice (some ⟨wd.heap.size, 0, none⟩) 1 1) [T].length [.slice q11 T.length c11] := by rw [hwe]; exact Rd_lit wd #[.slice q11 T.length c11] 23 1 1 rfl (by decide)
        have hbbe : Below wb.heap.size wb we := hbd.trans (hbe.mono hbd.size)
        have hte := HTB.out.below hbbe
        have hvb : ∀ j, (Value.slice (some ⟨g, 0, none⟩) (k + 1) cj).ownBlock = some j → j < wb.heap.size := fun j hj => (HTB.out.own.lt j hj).2
        have hrdT : Rd we 1 (.slice q11 T.length c11) T.length (bys T) := (Rd.of_ow how).below hbe
        have HE2 : Hid (ElsAt we [.slice q11 T.length c11] [T]) := Lib.hid (fun i hi => by
          obtain rfl : i = 0 := by simp at hi; omega
          exact ⟨q11, c11, rfl, hrdT⟩)
        have HF2' : Hid (∀ u ∈ [Value.slice q11 T.length c11], Fr w2.heap.size u) := Lib.hid (fun u hu j hj => by
          obtain rfl := List.mem_singleton.1 hu
          exact Nat.le_trans HBB.out.size (hown j hj).1)
        have HA2' : Hid (∀ u ∈ [Value.slice q11 T.length c11], ∀ j, u.ownBlock = some j → (Value.slice (some ⟨g, 0, none⟩) (k + 1) cj).ownBlock ≠ some j) := Lib.hid (fun u hu j hj e => by
          obtain rfl := List.mem_singleton.1 hu
          have := (hown j hj).1
          have := hvb j e
          omega)
        have HN2' : Hid (∀ u ∈ [Value.slice q11 T.length c11], u.ownBlock ≠ some g2) := Lib.hid (fun u hu e => by
          obtain rfl := List.mem_singleton.1 hu
          have := (hown g2 e).1
          have := HG2S.out
          omega)
        have HBE := Lib.hid (HBB.out.trans (hbbe.mono HBB.out.size))
        have HGE : Hid (g2 < we.heap.size) := Lib.hid (Nat.lt_of_lt_of_le HG2S.out hbbe.size)
        have HRE := Lib.hid (Rp.row_le hbbe HRB.out)
        have HTE2 := Lib.hid hte
        have HLIT := Lib.hid hlit
        have HRDT := Lib.hid hrdT
        have HWE := Lib.hid hwe
        have hmx : LL.length + [T].length ≤ 100000 := by
          have := HLL.out
          have := HA2.out.few
          simp only [List.length_singleton]
          omega
        have HMX := Lib.hid hmx
        clear how hbd hown hwe hbe hlit hbbe hte hvb hrdT hmx cb hwr HLXB HLB HCT HTB HRB HBB HG2S HIXX HSXX
        go_upto_region 12 with fail
        go_wp2_with (rw [← HWE.out]; refine Hid.out ?_)
        refine Lib.hid ?_
        go_simp
        refine l_apptx rfl _ _ rfl (L := LL) (vs := vs) (L2 := [T]) (vs2 := [.slice q11 T.length c11]) rfl rfl HTE2.out HLIT.out HGE.out HBE.out.size HE2.out HF2'.out HA2'.out HN2'.out HMX.out ?_
        intro v7 wf htf hgr
        have hgr : we.grownBy wf (some g) := hgr
        have hgg : w2.heap.size ≤ g := (HTE2.out.own.lt g rfl).1
        have hg2g : g2 ≠ g := fun e => HTE2.out.nov (by rw [e]; rfl)
        have hrf : wf.heap[g2]? = some (.cells (memA iv (n0 + (k : Int) + 1) B) 43 (0, 0)) := (hgr.block g2 HGE.out (fun e => hg2g (Option.some.inj e))).trans HRE.out
        have hbf : Below w2.heap.size w2 wf := ⟨hgr.os.trans HBE.out.os, hgr.tape.trans HBE.out.tape, hgr.output.trans HBE.out.output, Nat.le_trans HBE.out.size hgr.size, fun j hj => (hgr.block j (Nat.lt_of_lt_of_le hj HBE.out.size) (fun e => by have := Option.some.inj e; omega)).trans (HBE.out.block j hj)⟩
        have hrdf : Rd wf 1 (.slice q11 T.length c11) T.length (bys T) := HRDT.out.at hgr.size (fun j hj => hgr.block j (Rd_own_lt HRDT.out hj) (fun e => HA2'.out _ (List.mem_singleton.2 rfl) j hj e.symm))
        obtain ⟨wg, hwg⟩ : ∃ wg, wg = wf.alloc (.cells #[.slice q11 T.length c11] 23) := ⟨_, rfl⟩
        have hbg : Below wf.heap.size wf wg := by rw [hwg]; exact (Below.refl _ _).alloc (Nat.le_refl _) _
        have hb2g := hbf.trans (hbg.mono hbf.size)
        have HSU : Hid (Calls Tryz.prog 19 #[.slice (some ⟨wf.heap.size, 0, none⟩) 1 1] wg fun e w' => e = .returned (.agg (bysA N)) ∧ Below wg.heap.size wg w') := Lib.hid (by
          have := parts_any (some ⟨wf.heap.size, 0, none⟩) 1 [T] wg (HS2.out.below hb2g) (by rw [hwg]; exact Fnd.partsF wf T _ ⟨_, _, rfl, hrdf⟩) (by simp; have := HTL.out; omega)
          rw [HNK.out]
          simpa using this)
        have HTG := Lib.hid (htf.below hbg)
        have HRG := Lib.hid (Rp.row_le hbg hrf)
        have HBG := Lib.hid hb2g
        have HWG := Lib.hid hwg
        have hkl : (LL ++ [T]).length = k + 1 + 1 := by rw [List.length_append, HLL.out]; rfl
        obtain ⟨g', c7, rfl⟩ : ∃ g' c7, v7 = .slice (some ⟨g', 0, none⟩) (k + 1 + 1) c7 := by
          have hw := htf.own
          rw [hkl] at hw
          rcases hw.2 with ⟨_, e⟩ | ⟨g', cap, cur, fz, e, _⟩
          · omega
          · exact ⟨g', cap, e⟩
        clear htf hgr hgg hg2g hrf hbf hrdf hwg hbg hb2g hkl HE2 HF2' HA2' HN2' HBE HGE HRE HTE2 HLIT HRDT HWE HMX
        go_upto_region 13 with fail
        go_wp2_with fail
        rw [← HWG.out]
        refine HSU.out.mono ?_
        rintro e wh ⟨rfl, hbh⟩
        have hrh := Rp.row_le hbh HRG.out
        obtain ⟨wi, hwi⟩ : ∃ wi, wi = wh.setRow g2 ((memA iv (n0 + (k : Int) + 1) B).toList.take 3 ++ (bysA N).toList ++ (memA iv (n0 + (k : Int) + 1) B).toList.drop (3 + (bysA N).size)).toArray := ⟨_, rfl⟩
        have hwi2 : wi = wh.setRow g2 (memA iv (n0 + (k : Int) + 1) N) := by rw [hwi, memA_mid HBL.out HNL.out]
        have hri : wi.heap[g2]? = some (.cells (memA iv (n0 + (k : Int) + 1) N) 43 (0, 0)) := by rw [hwi2]; exact setRow_heap wh g2 _ _ _ _ hrh
        have hbi : Below w2.heap.size w2 wi := by rw [hwi2]; exact Rg.below_setRow (HBG.out.trans (hbh.mono HBG.out.size)) HG2B.out _
        have hti := (HTG.out.below hbh).move (y := wi) (by rw [hwi2]; simp [World.setRow]) (fun j _ hj => by rw [hwi2]; exact setRow_heap_ne hj)
        have HRH := Lib.hid hrh
        have HWI := Lib.hid hwi
        have HSZ : Hid (3 + (bysA N).size ≤ (memA iv (n0 + (k : Int) + 1) B).size) := Lib.hid (by rw [memA_size HBL.out, bysA_size, HNL.out]; decide)
        have HNR : Hid (∃ (k' g cj : Nat), k' ≤ R.length ∧ Value.slice (some ⟨g', 0, none⟩) (k + 1 + 1) c7 = .slice (some ⟨g, 0, none⟩) (k' + 1) cj ∧ Value.int .i64 ((k : Int) + 1) = .int .i64 (k' : Int) ∧ Hid (∃ vs, TxR wi w2.heap.size g2 (.slice (some ⟨g, 0, none⟩) (k' + 1) cj) (T0 :: lksT id n0 lk (R.take k')) vs) ∧ Hid (wi.heap[g2]? = some (.cells (memA (.slice qi id.length ci) (n0 + (k' : Int)) (lksL id n0 lk (R.take k'))) 43 (0, 0))) ∧ Hid (Below w2.heap.size w2 wi)) :=
          Lib.hid ⟨k + 1, g', c7, by omega, rfl, by congr 1, Lib.hid ⟨_, by rw [HTE.out]; exact hti⟩, Lib.hid (by rw [HNE.out, ← HIV.out, hri, show n0 + ((k + 1 : Nat) : Int) = n0 + (k : Int) + 1 by omega]), Lib.hid hbi⟩
        clear hrh hwi hwi2 hri hbi hti hbh
        go_wp2_with (refine Rg.store_part rfl 22 _ _ rfl g2 3 rfl 43 (memA iv (n0 + (k : Int) + 1) B) (bysA N) rfl HRH.out HINN.out HSZ.out (bysA_one _) ?_; rw [← HWI.out])
        exact ⟨HNR.out, by simp only [intOf]; omega⟩
      · obtain rfl : k = R.length := by omega
        have hnl : ¬ ((R.length : Int) < (R.length : Int)) := by omega
        obtain ⟨vs, htx⟩ := HTX.out
        have hg2 := HG2.out
        rw [List.take_length] at htx hg2
        have hfw := HA2.out.few
        have hkL : (T0 :: lksT id n0 lk R).length = R.length + 1 := by rw [List.length_cons, lksT_length]
        obtain ⟨LL, hLL⟩ : ∃ l, l = T0 :: lksT id n0 lk R := ⟨_, rfl⟩
        rw [← hLL] at htx hkL
        obtain ⟨E, hE⟩ : ∃ E, E = lksL id n0 lk R := ⟨_, rfl⟩
        have hEl : E.length = 32 := by rw [hE]; exact lksL_length _ _ _ _ HLKL.out
        rw [← hE] at hg2
        obtain ⟨M, hM⟩ : ∃ M, M = memA (.slice qi id.length ci) (n0 + (R.length : Int)) E := ⟨_, rfl⟩
        rw [← hM] at hg2
        have hMI : MemIs wr M qi ci id false (n0 + (R.length : Int)) E := by
          rw [hM]
          exact ⟨memA_size hEl, by rw [← Array.getElem?_toList, memA_list]; rfl, by rw [← Array.getElem?_toList, memA_list]; rfl, memA_c2, memA_linkP, hEl, by omega, by omega, HID2.out.below HB.out, hil⟩
        obtain ⟨W1, hW1⟩ : ∃ W, W = standT false (n0 + (R.length : Int)) E (bit (sha (5 :: id))) S (endT there key val) := ⟨_, rfl⟩
        obtain ⟨W2, hW2⟩ : ∃ W, W = wayT (bit f.ix) f.S (endT f.pt f.pk f.pv) := ⟨_, rfl⟩
        have HLE : Hid (lookT id f R S there key val = ((LL ++ W1) ++ W2) ++ cmtT f) := Lib.hid (by rw [hW1, hW2, hLL, HT0.out, hE, HLK.out, HN0.out]; rfl)
        have hw1 : W1.length ≤ 300 := by rw [hW1, standT_length]; have := HU2.out.prf.few; omega
        have hw2 : W2.length ≤ 300 := by rw [hW2, wayT_length]; have := HF2.out.ok.few; omega
        have HL1 : Hid ((Instr.loadAt 43 (.pointer (some ⟨g2, 0, none⟩))).run Tryz.prog wr = .ok (.agg M) wr) := Lib.hid ((PartAt.self M).load hg2 Tryz.underlying43 rfl (by rw [hMI.size]; exact infoMem))
        have HL2 : Hid ((Instr.loadAt 39 (.pointer (some ⟨w.heap.size, 379, none⟩))).run Tryz.prog wr = .ok (.agg U) wr) := Lib.hid (HA2.out.undP.load (Rp.row_le HB.out HR1.out) Tryz.underlying39 rfl (by rw [HU2.out.size]; exact infoUnder))
        have HST := Lib.hid (standing_any (HS2.out.below HB.out) (HID2.out.below HB.out) hil hMI (HU2.out.below HB.out))
        rw [← hW1] at HST
        have HTXX := Lib.hid htx
        have HKL := Lib.hid hkL
        have HW1L := Lib.hid hw1
        have HW2L := Lib.hid hw2
        have HW2E := Lib.hid hW2
        have HG2X := Lib.hid (lt_of_heap hg2)
        clear htx hg2 hkL hLL hE hEl hM hMI hW1 hW2 hw1 hw2 HTX HG2
        go_upto_region 15 with fail
        go_wp2_with (first | (refine l_load rfl _ _ rfl (.agg M) HL1.out ?_) | (refine l_load rfl _ _ rfl (.agg U) HL2.out ?_))
        refine HST.out.mono ?_
        rintro e x1 ⟨q1, c1, rfl, hp1, hbx1⟩
        have HT1 := Lib.hid (HTXX.out.below hbx1)
        have HB1 := Lib.hid (HB.out.trans (hbx1.mono HB.out.size))
        have HG1 : Hid (g2 < x1.heap.size) := Lib.hid (Nat.lt_of_lt_of_le HG2X.out hbx1.size)
        obtain ⟨us, a1, a2, a3, a4, a5⟩ := PartsF.app HT1.out hp1 HB.out.size HG2X.out (fun j hj => (HTXX.out.own.lt j hj).2)
        have HU1 := Lib.hid a1
        have HU2' := Lib.hid a2
        have HU3 := Lib.hid a3
        have HU4 := Lib.hid a4
        have HU5 := Lib.hid a5
        have HMX : Hid (LL.length + W1.length ≤ 100000) := Lib.hid (by have := HKL.out; have := HW1L.out; omega)
        clear hp1 hbx1 a1 a2 a3 a4 a5 HTXX HG2X HL1 HL2 HST HB
        go_wp2_with (refine l_apptx rfl _ _ rfl (L := LL) (vs := vs) (L2 := W1) (vs2 := us) rfl rfl HT1.out HU1.out HG1.out HB1.out.size HU2'.out HU3.out HU4.out HU5.out HMX.out ?_; intro v7 x2 htf hgr; have HT2 := Lib.hid htf; have HB3 := Lib.hid (HT1.out.grown HB1.out hgr); have HG3 : Hid (g2 < x2.heap.size) := Lib.hid (Nat.lt_of_lt_of_le HG1.out hgr.size); have hr32 := Rp.row_le HB3.out HR3.out; have HL1 : Hid ((Instr.loadAt 22 (.pointer (some ⟨g1, 1, none⟩))).run Tryz.prog x2 = .ok (.agg (bysA f.ix)) x2) := Lib.hid (HF2.out.ixP.load hr32 Tryz.underlying22 rfl (info32r _ HF2.out.ok.ixL)); have HL2 : Hid ((Instr.loadAt 32 (.pointer (some ⟨g1, 180, none⟩))).run Tryz.prog x2 = .ok (.agg C') x2) := Lib.hid (HF2.out.pat.load hr32 Tryz.underlying32 rfl (by rw [HF2.out.prf.size]; exact Fnd.infoProof)); clear htf hgr hr32; refine Hid.out ?_)
        refine Lib.hid ?_
        have hp2 := HF2.out.prf.below HB3.out
        have HWT := Lib.hid (waytexts_any f.ix C' f.pt f.pk f.pv qf cf f.S x2 (HS2.out.below HB3.out) HF2.out.ok.ixL hp2.size hp2.c0 hp2.c1 hp2.keyP hp2.valP hp2.keyL hp2.valL hp2.sums hp2.few)
        rw [← HW2E.out] at HWT
        clear hp2
        go_wp2_with (first | (refine l_load rfl _ _ rfl (.agg (bysA f.ix)) HL1.out ?_) | (refine l_load rfl _ _ rfl (.agg C') HL2.out ?_))
        refine HWT.out.mono ?_
        rintro e x3 ⟨q2, c2, rfl, htA, hbx3⟩
        have HT3 := Lib.hid (HT2.out.below hbx3)
        have HB4 := Lib.hid (HB3.out.trans (hbx3.mono HB3.out.size))
        have HG4 : Hid (g2 < x3.heap.size) := Lib.hid (Nat.lt_of_lt_of_le HG3.out hbx3.size)
        obtain ⟨ys, a1, a2, a3, a4, a5⟩ := PartsF.app HT3.out htA.partsF HB3.out.size HG3.out (fun j hj => (HT2.out.own.lt j hj).2)
        have HY1 := Lib.hid a1
        have HY2 := Lib.hid a2
        have HY3 := Lib.hid a3
        have HY4 := Lib.hid a4
        have HY5 := Lib.hid a5
        have HMY : Hid ((LL ++ W1).length + W2.length ≤ 100000) := Lib.hid (by rw [List.length_append]; have := HKL.out; have := HW1L.out; have := HW2L.out; omega)
        obtain ⟨th, hth⟩ : ∃ b, b = f.there := ⟨_, rfl⟩
        have HTH := Lib.hid hth
        clear htA hbx3 a1 a2 a3 a4 a5 HT1 HT2 HB1 HG1 HG3 HL1 HL2 HWT HU1 HU2' HU3 HU4 HU5 HMX hth
        go_wp2_with (refine l_apptx rfl _ _ rfl (L := LL ++ W1) (vs := vs ++ us) (L2 := W2) (vs2 := ys) rfl rfl HT3.out HY1.out HG4.out HB4.out.size HY2.out HY3.out HY4.out HY5.out HMY.out ?_; intro v8 x4 htf hgr; have HT4 := Lib.hid htf; have HB5 := Lib.hid (HT3.out.grown HB4.out hgr); have HG5 : Hid (g2 < x4.heap.size) := Lib.hid (Nat.lt_of_lt_of_le HG4.out hgr.size); have hr34 := Rp.row_le HB5.out HR3.out; have HLT : Hid ((Instr.loadAt 4 (.pointer (some ⟨g1, 113, none⟩))).run Tryz.prog x4 = .ok (.bool th) x4) := Lib.hid (load_rowB ((cell_of_row _ _ _ _ _ _ hr34).trans (by rw [HTH.out]; exact HF2.out.c113))); clear htf hgr hr34; refine Hid.out ?_)
        refine Lib.hid ?_
        have HB6 := Lib.hid (HB2.out.trans (HB5.out.mono HB2.out.size))
        cases th with
        | false =>
          obtain ⟨q8, c8, rfl⟩ := HT4.out.form
          have HE8 : Hid (lookT id f R S there key val = (LL ++ W1) ++ W2) := Lib.hid (by
            rw [HLE.out]
            unfold cmtT
            rw [← HTH.out]
            exact List.append_nil _)
          have HPF : Hid (PartsF x4 w.heap.size (.slice q8 (lookT id f R S there key val).length c8) (lookT id f R S there key val)) := Lib.hid (by rw [HE8.out]; exact HT4.out.partsF.le HB2.out.size)
          rw [← HE8.out]
          go_wp2_with (refine l_loadG 4 _ rfl (.pointer (some ⟨g1, 113, none⟩)) rfl _ HLT.out (by kernel_rfl) ?_)
          go_ret
          exact ⟨q8, c8, rfl, HPF.out, HB6.out⟩
        | true =>
          have hr34 := Rp.row_le HB5.out HR3.out
          have HO1 : Hid ((Instr.loadAt 22 (.pointer (some ⟨g1, 148, none⟩))).run Tryz.prog x4 = .ok (.agg (bysA f.op)) x4) := Lib.hid (HF2.out.opP.load hr34 Tryz.underlying22 rfl (info32r _ HF2.out.ok.opL))
          have HO2 : Hid ((Instr.loadAt 22 (.pointer (some ⟨g1, 1, none⟩))).run Tryz.prog x4 = .ok (.agg (bysA f.ix)) x4) := Lib.hid (HF2.out.ixP.load hr34 Tryz.underlying22 rfl (info32r _ HF2.out.ok.ixL))
          have HO3 : Hid ((Instr.loadAt 3 (.pointer (some ⟨g1, 114, none⟩))).run Tryz.prog x4 = .ok (.int .i64 f.seq) x4) := Lib.hid (load_rowI ((cell_of_row _ _ _ _ _ _ hr34).trans HF2.out.c114))
          have HO4 : Hid ((Instr.loadAt 23 (.pointer (some ⟨g1, 115, none⟩))).run Tryz.prog x4 = .ok (.slice qv f.text.length cv) x4) := Lib.hid (load_rowU ((cell_of_row _ _ _ _ _ _ hr34).trans HF2.out.c115))
          have HCT := Lib.hid (Ref.ctexts_any f.op f.ix f.seq qv cv f.text x4 (HS2.out.below HB5.out) HF2.out.ok.opL HF2.out.ok.ixL (HF2.out.textR.below HB5.out) HF2.out.ok.textL)
          clear hr34
          go_wp2_with (refine l_loadG 4 _ rfl (.pointer (some ⟨g1, 113, none⟩)) rfl _ HLT.out (by kernel_rfl) ?_; refine Hid.out ?_)
          refine Lib.hid ?_
          go_upto_region 18 with fail
          go_wp2_with (first | (refine l_loadG 22 _ rfl (.pointer (some ⟨g1, 148, none⟩)) rfl _ HO1.out (by kernel_rfl) ?_; refine Hid.out ?_))
          refine Lib.hid ?_
          go_wp2_with (first | (refine l_loadG 22 _ rfl (.pointer (some ⟨g1, 1, none⟩)) rfl _ HO2.out (by kernel_rfl) ?_; refine Hid.out ?_))
          refine Lib.hid ?_
          go_wp2_with (first | (refine l_loadG 3 _ rfl (.pointer (some ⟨g1, 114, none⟩)) rfl _ HO3.out (by kernel_rfl) ?_; refine Hid.out ?_))
          refine Lib.hid ?_
          go_wp2_with (first | (refine l_loadG 23 _ rfl (.pointer (some ⟨g1, 115, none⟩)) rfl _ HO4.out (by kernel_rfl) ?_; refine Hid.out ?_))
          refine Lib.hid ?_
          go_wp2_with fail
          refine HCT.out.mono ?_
          rintro e x5 ⟨gt, q1', c1', q2', c2', rfl, hgt, hrow, hr1, hr2, hf1, hf2, hbx5⟩
          obtain ⟨z1, z2⟩ := two_els hrow hr1 hr2
          have HT5 := Lib.hid (HT4.out.below hbx5)
          have HB7 := Lib.hid (HB5.out.trans (hbx5.mono HB5.out.size))
          have HG7 : Hid (g2 < x5.heap.size) := Lib.hid (Nat.lt_of_lt_of_le HG5.out hbx5.size)
          have hvb : ∀ j, v8.ownBlock = some j → j < x4.heap.size := fun j hj => (HT4.out.own.lt j hj).2
          have hfr : ∀ u ∈ [Value.slice q1' (tin f.op f.ix f.seq f.text).length c1', .slice q2' (tout f.op f.ix f.seq f.text).length c2'], ∀ j, u.ownBlock = some j → x4.heap.size ≤ j := fun u hu j hj => by
            simp only [List.mem_cons, List.not_mem_nil, or_false] at hu
            rcases hu with rfl | rfl
            · exact hf1 j hj
            · exact hf2 j hj
          have HZ1 := Lib.hid z1
          have HZ2 := Lib.hid z2
          have HZ3 : Hid (∀ u ∈ [Value.slice q1' (tin f.op f.ix f.seq f.text).length c1', .slice q2' (tout f.op f.ix f.seq f.text).length c2'], Fr w2.heap.size u) := Lib.hid (fun u hu j hj => Nat.le_trans HB5.out.size (hfr u hu j hj))
          have HZ4 : Hid (∀ u ∈ [Value.slice q1' (tin f.op f.ix f.seq f.text).length c1', .slice q2' (tout f.op f.ix f.seq f.text).length c2'], ∀ j, u.ownBlock = some j → v8.ownBlock ≠ some j) := Lib.hid (fun u hu j hj e => by have := hfr u hu j hj; have := hvb j e; omega)
          have HZ5 : Hid (∀ u ∈ [Value.slice q1' (tin f.op f.ix f.seq f.text).length c1', .slice q2' (tout f.op f.ix f.seq f.text).length c2'], u.ownBlock ≠ some g2) := Lib.hid (fun u hu e => by have := hfr u hu g2 e; have := HG5.out; omega)
          have HMZ : Hid (((LL ++ W1) ++ W2).length + [tin f.op f.ix f.seq f.text, tout f.op f.ix f.seq f.text].length ≤ 100000) := Lib.hid (by
            have := HKL.out; have := HW1L.out; have := HW2L.out
            simp only [List.length_append, List.length_cons, List.length_nil]
            omega)
          have HE9 : Hid (lookT id f R S there key val = ((LL ++ W1) ++ W2) ++ [tin f.op f.ix f.seq f.text, tout f.op f.ix f.seq f.text]) := Lib.hid (by
            rw [HLE.out]
            unfold cmtT
            rw [← HTH.out]
            rfl)
          clear hgt hrow hr1 hr2 hf1 hf2 hbx5 z1 z2 hvb hfr HT4 HB5 HG5 HB6 HO1 HO2 HO3 HO4 HCT HLT
          go_wp2_with (refine l_apptx rfl _ _ rfl (L := (LL ++ W1) ++ W2) (vs := (vs ++ us) ++ ys) (L2 := [tin f.op f.ix f.seq f.text, tout f.op f.ix f.seq f.text]) (vs2 := [.slice q1' (tin f.op f.ix f.seq f.text).length c1', .slice q2' (tout f.op f.ix f.seq f.text).length c2']) rfl rfl HT5.out HZ1.out HG7.out HB7.out.size HZ2.out HZ3.out HZ4.out HZ5.out HMZ.out ?_; intro v9 x6 htf hgr; have HT6 := Lib.hid htf; have HB8 := Lib.hid (HT5.out.grown HB7.out hgr); clear htf hgr; refine Hid.out ?_)
          refine Lib.hid ?_
          have HB9 := Lib.hid (HB2.out.trans (HB8.out.mono HB2.out.size))
          obtain ⟨q9, c9, rfl⟩ := HT6.out.form
          have HPF : Hid (PartsF x6 w.heap.size (.slice q9 (lookT id f R S there key val).length c9) (lookT id f R S there key val)) := Lib.hid (by rw [HE9.out]; exact HT6.out.partsF.le HB2.out.size)
          rw [← HE9.out]
          go_wp2_with fail
          go_ret
          exact ⟨q9, c9, rfl, HPF.out, HB9.out⟩
end Stn
end Go.Proofs.YtmonkggoilhngaaGreatDoor

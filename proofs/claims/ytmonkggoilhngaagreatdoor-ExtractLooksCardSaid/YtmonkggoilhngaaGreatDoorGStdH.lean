/- All texts of how a member stands, and a pair of texts. Conditions: none beyond the bounds of bytes. -/
import Derived.Test.YtmonkggoilhngaaGreatDoorGStdJ
import Derived.Test.YtmonkggoilhngaaGreatDoorGStandQ
import Derived.Test.YtmonkggoilhngaaGreatDoorGConcW
namespace Go.Proofs.YtmonkggoilhngaaGreatDoor
open Go.RowKit Bits Mem Sha
namespace Stn
open Ref (RdL All32)
def RowsAt (w : World) (v : Value) (W : List (List UInt8)) (vs : List Value) : Prop :=
  Rd w 1 v W.length vs ∧ ∀ i, i < W.length → ∃ q c, vs[i]? = some (.slice q (W.getD i []).length c) ∧ Rd w 1 (.slice q (W.getD i []).length c) (W.getD i []).length (bys (W.getD i []))
def Fr (b : Nat) (v : Value) : Prop := ∀ k, v.ownBlock = some k → b ≤ k
theorem Fr.le {b b' : Nat} {v : Value} (h : Fr b v) (hb : b' ≤ b) : Fr b' v := fun k hk => Nat.le_trans hb (h k hk)
def PartsF (w : World) (b : Nat) (v : Value) (L : List (List UInt8)) : Prop := ∃ vs, Rd w 1 v L.length vs ∧ Fr b v ∧ (∀ u ∈ vs, Fr b u) ∧ ∀ i, i < L.length → ∃ q c, vs[i]? = some (.slice q (L.getD i []).length c) ∧ Rd w 1 (.slice q (L.getD i []).length c) (L.getD i []).length (bys (L.getD i []))
theorem PartsF.keeps {x x' y : World} {v : Value} {L : List (List UInt8)} {B : Nat} {F : Nat → Prop} (h : PartsF x' x.heap.size v L) (hF : ∀ k, x.heap.size ≤ k → k < x'.heap.size → F k) (hy : Rc.Keeps B F x' y) : Parts y v L := by
  obtain ⟨vs, h1, h2, h3, h4⟩ := h
  refine ⟨vs, h1.keeps hy (fun k hk => .inr (hF k (h2 k hk) (Rd_own_lt h1 hk))), fun i hi => ?_⟩
  obtain ⟨q, c, e, hr⟩ := h4 i hi
  exact ⟨q, c, e, hr.keeps hy (fun k hk => .inr (hF k (h3 _ (List.mem_of_getElem? e) k hk) (Rd_own_lt hr hk)))⟩
theorem PartsF.parts {w : World} {b : Nat} {v : Value} {L : List (List UInt8)} (h : PartsF w b v L) : Parts w v L := by
  obtain ⟨vs, h1, _, _, h4⟩ := h
  exact ⟨vs, h1, h4⟩
theorem PartsF.le {w : World} {b b' : Nat} {v : Value} {L : List (List UInt8)} (h : PartsF w b v L) (hb : b' ≤ b) : PartsF w b' v L := by
  obtain ⟨vs, h1, h2, h3, h4⟩ := h
  exact ⟨vs, h1, h2.le hb, fun u hu => (h3 u hu).le hb, h4⟩
theorem TxA.rows {x x' : World} {v : Value} {W : List (List UInt8)} (h : TxA x' x.heap.size v W) : ∃ vs, (∀ u ∈ vs, Fr x.heap.size u) ∧ ∀ {B : Nat} {F : Nat → Prop} {y : World}, (∀ k, x.heap.size ≤ k → k < x'.heap.size → F k) → Rc.Keeps B F x' y → RowsAt y v W vs := by
  obtain ⟨vs, h1, h2⟩ := h
  refine ⟨vs, fun u hu => ?_, fun hF hy => ⟨(Rd.of_ow h1).keeps hy (fun k hk => .inr (hF k (h1.lt k hk).1 (h1.lt k hk).2)), fun i hi => ?_⟩⟩
  · obtain ⟨i, hi, rfl⟩ := List.mem_iff_getElem.1 hu
    have hl := (Rd.of_ow h1).1
    obtain ⟨q, c, e, h3⟩ := h2 i (by omega)
    rw [List.getElem?_eq_getElem hi] at e
    rw [Option.some.inj e]
    exact fun k hk => (h3.lt k hk).1
  obtain ⟨q, c, e, h3⟩ := h2 i hi
  exact ⟨q, c, e, (Rd.of_ow h3).keeps hy (fun k hk => .inr (hF k (h3.lt k hk).1 (h3.lt k hk).2))⟩
theorem rows_one {w : World} {v : Value} {W : List (List UInt8)} {vs : List Value} (h : RowsAt w v W vs) : ∀ u ∈ vs, u.oneCell' = true := by
  intro u hu
  obtain ⟨i, hi, rfl⟩ := List.mem_iff_getElem.1 hu
  have hl := h.1.1
  obtain ⟨q, c, e, _⟩ := h.2 i (by omega)
  rw [List.getElem?_eq_getElem hi] at e
  rw [Option.some.inj e]
  rfl
theorem parts_cons {w : World} {v u : Value} {t : List UInt8} {W : List (List UInt8)} {vs : List Value} (h : Rd w 1 v (W.length + 1) (u :: vs)) (hu : ∃ q c, u = .slice q t.length c ∧ Rd w 1 (.slice q t.length c) t.length (bys t))
    (hW : ∀ i, i < W.length → ∃ q c, vs[i]? = some (.slice q (W.getD i []).length c) ∧ Rd w 1 (.slice q (W.getD i []).length c) (W.getD i []).length (bys (W.getD i []))) {b : Nat} (f1 : Fr b v) (f2 : Fr b u) (f3 : ∀ x ∈ vs, Fr b x) : PartsF w b v (t :: W) := by
  refine ⟨u :: vs, h, f1, fun x hx => (List.mem_cons.1 hx).elim (fun e => e ▸ f2) (f3 x), fun i hi => ?_⟩
  cases i with
  | zero => obtain ⟨q, c, rfl, hr⟩ := hu; exact ⟨q, c, rfl, hr⟩
  | succ i => exact hW i (by simpa using hi)
set_option maxRecDepth 100000 in
set_option maxHeartbeats 4000000 in
theorem standing_any {w : World} {qid : Option Addr} {cid : Nat} {idl : List UInt8} {M : Array Value} {qi : Option Addr} {ci : Nat} {id : List UInt8} {gone : Bool} {nm : Int} {link : List UInt8} {U C : Array Value} {qs : Option Addr} {cs : Nat} {S : List (List UInt8)} {there : Bool} {key val : List UInt8} {n : Int} {root sg log : List UInt8} {ql : Option Addr} {cl : Nat} {L : List (List UInt8)}
    (hS : Sha.Tabs w) (hid : Rd w 1 (.slice qid idl.length cid) idl.length (bys idl)) (hil : idl.length ≤ 1000000) (hM : MemIs w M qi ci id gone nm link) (hU : UndIs w U C qs cs S there key val n root sg log ql cl L) :
    Calls Tryz.prog 23 #[.slice qid idl.length cid, .agg M, .agg U] w fun e w' => ∃ q c, e = .returned (.slice q (standT gone nm link (bit (sha (5 :: idl))) S (endT there key val)).length c) ∧ PartsF w' w.heap.size (.slice q (standT gone nm link (bit (sha (5 :: idl))) S (endT there key val)).length c) (standT gone nm link (bit (sha (5 :: idl))) S (endT there key val)) ∧ Below w.heap.size w w' := by
  obtain ⟨i0, hi0, hz0, hz1, hz2⟩ := parts3M Fnd.infoRow
  obtain ⟨w2, hw2⟩ : ∃ w2, w2 = (w.alloc (.cells M 43)).alloc (.cells U 39) := ⟨_, rfl⟩
  have hb2 : Below w.heap.size w w2 := by rw [hw2]; exact ((Below.refl _ _).alloc (Nat.le_refl _) _).alloc (by simp) _
  have hr1 : w2.heap[w.heap.size]? = some (.cells M 43 (0, 0)) := by rw [hw2]; exact (Rg.heap_alloc_past _ _ _ (by simp)).trans (Rg.heap_alloc_at w _ _ rfl)
  have hr2 : w2.heap[w.heap.size + 1]? = some (.cells U 39 (0, 0)) := by rw [hw2]; exact Rg.heap_alloc_at _ _ _ (by simp)
  obtain ⟨K, hK⟩ : ∃ K, K = sha (5 :: idl) := ⟨_, rfl⟩
  have HKL : Hid (K.length = 32) := Lib.hid (by rw [hK]; exact sha_length _)
  have HKY : Hid (∀ x, Below w2.heap.size w2 x → Calls Tryz.prog 46 #[.slice qid idl.length cid] x fun e w' => e = .returned (.agg (bysA K)) ∧ Below x.heap.size x w') := Lib.hid (fun x hx => by
    rw [hK]
    exact Fnd.key_any qid cid idl x ((hS.below hb2).below hx) ((hid.below hb2).below hx) hil)
  rw [← hK]
  obtain ⟨T, hT⟩ : ∃ T, T = valT gone nm link := ⟨_, rfl⟩
  obtain ⟨W, hW⟩ : ∃ W, W = wayT (bit K) S (endT there key val) := ⟨_, rfl⟩
  have HTX : Hid (∀ x, Below w2.heap.size w2 x → Calls Tryz.prog 29 #[.agg (bysA K), .agg C] x fun e w' => ∃ q c, e = .returned (.slice q W.length c) ∧ TxA w' x.heap.size (.slice q W.length c) W ∧ Below x.heap.size x w') := Lib.hid (fun x hx => by
    have hp := (hU.prf.below hb2).below hx
    rw [hW]
    exact waytexts_any K C there key val qs cs S x ((hS.below hb2).below hx) HKL.out hp.size hp.c0 hp.c1 hp.keyP hp.valP hp.keyL hp.valL hp.sums hp.few)
  have HVT : Hid (∀ x, Calls Tryz.prog 51 #[.agg M] x fun e w' => ∃ q c, e = .returned (.slice q T.length c) ∧ Ow w' x.heap.size 5 1 (.slice q T.length c) T.length (bys T) ∧ Below x.heap.size x w') := Lib.hid (fun x => by rw [hT]; exact vtext_any M gone nm link hM.c1 hM.c2 hM.linkP hM.linkL x)
  have HSE : Hid (standT gone nm link (bit K) S (endT there key val) = T :: W) := Lib.hid (by rw [hT, hW]; rfl)
  have HWL : Hid (W.length ≤ 257) := Lib.hid (by rw [hW, wayT_length]; have := hU.prf.few; omega)
  have HLM : Hid (∀ y : World, Below w2.heap.size w2 y → (Instr.loadAt 43 (.pointer (some ⟨w.heap.size, 0, none⟩))).run Tryz.prog y = .ok (.agg M) y) := Lib.hid (fun y hy => (PartAt.self M).load (Rp.row_le hy hr1) Tryz.underlying43 rfl (by rw [hM.size]; exact infoMem))
  have HLC : Hid (∀ y : World, Below w2.heap.size w2 y → (Instr.loadAt 32 (.pointer (some ⟨w.heap.size + 1, 0, none⟩))).run Tryz.prog y = .ok (.agg C) y) := Lib.hid (fun y hy => hU.pat.load (Rp.row_le hy hr2) Tryz.underlying32 rfl (by rw [hU.prf.size]; exact Fnd.infoProof))
  have HB2 := Lib.hid hb2
  have HW2 := Lib.hid hw2
  clear hS hid hil hM hU hw2 hb2 hr1 hr2 hK hT hW
  rw [HSE.out]
  go_enter Tryz.func23, Tryz.ntmps23
  go_wp2_with fail
  rw [← HW2.out]
  refine Rc.region (w2.heap.size) 10 [Rc.F 1 (fun p => .slice p.q T.length p.c) (fun p _ y => Fr w2.heap.size (.slice p.q T.length p.c) ∧ Rd y 1 (.slice p.q T.length p.c) T.length (bys T)), ⟨2, [1], [], some (fun _ pj => .slice pj.q 1 1), fun p pj F y => OwF F y w2.heap.size 23 1 (.slice pj.q 1 1) 1 [.slice (p 1).q T.length (p 1).c]⟩, Rc.F 4 (fun _ => .agg (bysA K)) (fun _ _ _ => True), Rc.F 7 (fun p => .slice p.q W.length p.c) (fun p _ y => ∃ vs : List Value, p.v = .agg vs.toArray ∧ (∀ u ∈ vs, Fr w2.heap.size u) ∧ RowsAt y (.slice p.q W.length p.c) W vs), ⟨8, [1, 2, 7], [2], some (fun _ pj => .slice pj.q (W.length + 1) pj.c), fun p pj F y => ∃ vs : List Value, (p 7).v = .agg vs.toArray ∧ Fr w2.heap.size (.slice pj.q (W.length + 1) pj.c) ∧ Rd y 1 (.slice pj.q (W.length + 1) pj.c) (W.length + 1) (.slice (p 1).q T.length (p 1).c :: vs)⟩] [1, 7, 8] (by kernel_rfl) (Nat.le_refl _) (by kernel_rfl) ?_; intro p; simp only [List.take, List.drop]
  refine Rc.r_load rfl rfl _ _ rfl (.agg M) (fun x hx => HLM.out x (Rc.undrew hx)) ?_; intro K hK; go_simp; refine hK _ ?_; clear hK K
  refine Rc.fK rfl rfl rfl rfl ?_ ?_
  · intro x Fs hx hle hg K' hK
    go_wp2_with fail
    refine (HVT.out x).mono ?_
    rintro e x' ⟨q, c, rfl, how, hb⟩
    go_wp2_with fail
    exact hK ⟨q, c, undef⟩ x' hb (fun F y hF hy => ⟨fun k hk => Nat.le_trans hle (how.lt k hk).1, (Rd.of_ow how).keeps hy (fun k hk => .inr (hF k (how.lt k hk).1 (how.lt k hk).2))⟩)
  intro K hK; go_simp; refine hK _ ?_; clear hK K
  refine Rc.fK rfl rfl rfl rfl ?_ ?_
  · intro x Fs hx hle hg K' hK
    go_wp2_with fail
    exact hK ⟨some ⟨x.heap.size, 0, none⟩, 1, undef⟩ _ ((Below.refl _ _).alloc (Nat.le_refl _) _) (fun F y hF hy => OwF.fresh (Ow.lit x #[.slice (p 1).q T.length (p 1).c] 23 1 1 x.heap.size (Nat.le_refl _) (by decide) rfl) hle hF hy)
  intro K hK; go_simp; refine hK _ ?_; clear hK K
  iterate 1 (refine Rc.rK rfl rfl ?_; intro K hK; apply Exists.intro; refine ⟨?_, ?_⟩; (focus (intro x hx;  go_simp; (first | (fail) | ((try go_bits); (try go_simp); (try rfl))))); go_simp; refine hK _ ?_; clear hK K)
  refine Rc.fK rfl rfl rfl rfl ?_ ?_
  · intro x Fs hx hle hg K' hK
    have hck := HKY.out x (Rc.undrew hx)
    clear hx hg
    go_wp2_with fail
    refine hck.mono ?_
    rintro e x' ⟨rfl, hb⟩
    go_wp2_with fail
    exact hK ⟨none, 0, undef⟩ x' hb (fun _ _ _ _ => trivial)
  intro K hK; go_simp; refine hK _ ?_; clear hK K
  iterate 1 (refine Rc.rK rfl rfl ?_; intro K hK; apply Exists.intro; refine ⟨?_, ?_⟩; (focus (intro x hx;  go_simp; (first | (fail) | ((try go_bits); (try go_simp); (try rfl))))); go_simp; refine hK _ ?_; clear hK K)
  refine Rc.r_load rfl rfl _ _ rfl (.agg C) (fun x hx => HLC.out x (Rc.undrew hx)) ?_; intro K hK; go_simp; refine hK _ ?_; clear hK K
  refine Rc.fK rfl rfl rfl rfl ?_ ?_
  · intro x Fs hx hle hg K' hK
    have hck := HTX.out x (Rc.undrew hx)
    clear hx hg
    go_wp2_with fail
    refine hck.mono ?_
    rintro e x' ⟨q, c, rfl, htx, hb⟩
    obtain ⟨vs, hvf, hvs⟩ := htx.rows
    go_wp2_with fail
    exact hK ⟨q, c, .agg vs.toArray⟩ x' hb (fun F y hF hy => ⟨vs, rfl, fun u hu => (hvf u hu).le hle, hvs hF hy⟩)
  intro K hK; go_simp; refine hK _ ?_; clear hK K
  refine Rc.cK rfl rfl rfl ?_ ?_
  · intro x Fs hx hle hg K' hK
    have HO : Hid (OwF (Fs 2) x w2.heap.size 23 1 (.slice (p 2).q 1 1) 1 [.slice (p 1).q T.length (p 1).c]) := Lib.hid hg.2.1
    obtain ⟨vs, hv7, hf7, hr7⟩ : ∃ vs : List Value, (p 7).v = .agg vs.toArray ∧ (∀ u ∈ vs, Fr w2.heap.size u) ∧ RowsAt x (.slice (p 7).q W.length (p 7).c) W vs := hg.2.2.1
    have HV7 := Lib.hid hv7
    have HR7 := Lib.hid hr7
    have hwl := HWL.out
    clear hg hv7 hr7 hf7
    refine app_ow3 rfl _ _ 56 56 rfl w2.heap.size 23 i0 (.slice none 0 0) 1 24 Tryz.underlying56 hi0 hz0 hz1 hz2 (by rfl) _ 1 _ rfl HO.out.1 W.length _ rfl (Rd.src Tryz.underlying56 HR7.out.1 (rows_one HR7.out)) (by unfold maxLen; omega) (by omega) hle ?_
    intro v' x' how hg' hor
    obtain ⟨q', c', rfl⟩ := Ow_form how
    rw [show 1 + W.length = W.length + 1 by omega] at how hor ⊢
    go_wp2_with fail
    exact hK ⟨q', c', undef⟩ x' (HO.out.eff (by simp) hg') (fun y hy => ⟨vs, HV7.out, fun k hk => ((HO.out.next (con := [2]) (by simp) how hor hy).1.lt k hk).1, Rd.of_ow (HO.out.next (con := [2]) (by simp) how hor hy).1⟩)
  intro K hK; go_simp; refine hK _ ?_; clear hK K
  iterate 1 (refine Rc.rK rfl rfl ?_; intro K hK; apply Exists.intro; refine ⟨?_, ?_⟩; (focus (intro x hx;  go_simp; (first | (fail) | ((try go_bits); (try go_simp); (try rfl))))); go_simp; refine hK _ ?_; clear hK K)
  refine Rc.done fun wz Fs hx hle hg => ?_
  obtain ⟨q8, hq8⟩ : ∃ q8, q8 = (p 8).q := ⟨_, rfl⟩
  obtain ⟨c8, hc8⟩ : ∃ c8, c8 = (p 8).c := ⟨_, rfl⟩
  obtain ⟨f1, h1⟩ : Fr w2.heap.size (.slice (p 1).q T.length (p 1).c) ∧ Rd wz 1 (.slice (p 1).q T.length (p 1).c) T.length (bys T) := hg.1
  obtain ⟨vs, hv7, f7, hr7⟩ : ∃ vs : List Value, (p 7).v = .agg vs.toArray ∧ (∀ u ∈ vs, Fr w2.heap.size u) ∧ RowsAt wz (.slice (p 7).q W.length (p 7).c) W vs := hg.2.1
  obtain ⟨vs2, hv8, f8, hr8⟩ : ∃ vs : List Value, (p 7).v = .agg vs.toArray ∧ Fr w2.heap.size (.slice (p 8).q (W.length + 1) (p 8).c) ∧ Rd wz 1 (.slice (p 8).q (W.length + 1) (p 8).c) (W.length + 1) (.slice (p 1).q T.length (p 1).c :: vs) := hg.2.2.1
  have hvv : vs = vs2 := by
    rw [hv7] at hv8
    injection hv8 with e
    simpa using congrArg Array.toList e
  subst hvv
  rw [← hq8, ← hc8] at hr8 f8 ⊢
  have HPT : Hid (PartsF wz w.heap.size (.slice q8 (W.length + 1) c8) (T :: W)) := Lib.hid ((parts_cons hr8 ⟨_, _, rfl, h1⟩ hr7.2 f8 f1 f7).le HB2.out.size)
  have HBZ := Lib.hid (HB2.out.trans ((Rc.undrew hx).mono HB2.out.size))
  clear hx hle hg hq8 hc8 h1 hv7 hr7 hv8 hr8 f1 f7 f8
  go_wp2_with fail
  refine NoPanic.normal ?_
  go_wp2_with fail
  go_ret
  exact ⟨q8, c8, rfl, HPT.out, HBZ.out⟩
end Stn
end Go.Proofs.YtmonkggoilhngaaGreatDoor
/- Two standings told unlike under one root: two unlike texts of one sum (plain). -/
namespace Go.Proofs.YtmonkggoilhngaaGreatDoor
open Go.RowKit Bits Mem Sha
namespace Fnd
theorem findP_mem {V : List (List UInt8)} : ∀ {U : List (List UInt8)} {x y : List UInt8}, findP V U = (x, y, true) → x ∈ U ∧ y ∈ V
  | [], x, y, h => by
    have h : (([], [], false) : List UInt8 × List UInt8 × Bool) = (x, y, true) := h
    cases h
  | t :: U, x, y, h => by
    have h : (match pick V t with | some k => (t, V.getD k [], true) | none => findP V U) = (x, y, true) := h
    cases hp : pick V t with
    | some k =>
      rw [hp] at h
      cases h
      refine ⟨List.mem_cons_self .., ?_⟩
      have hk := (pick_good hp).1
      rw [List.getD_eq_getElem?_getD, List.getElem?_eq_getElem hk]
      exact List.getElem_mem hk
    | none =>
      rw [hp] at h
      obtain ⟨h1, h2⟩ := findP_mem h
      exact ⟨List.mem_cons_of_mem _ h1, h2⟩
end Fnd
namespace Stn
open Ref (RdL All32)
theorem endT_65 (t : Bool) (k v : List UInt8) (hk : k.length = 32) (hv : v.length = 32) : (endT t k v).length ≤ 65 := by
  cases t <;> simp [endT, hk, hv]
theorem standT_short {gone : Bool} {nm : Int} {link : List UInt8} {bt : Nat → Bool} {S : List (List UInt8)} {there : Bool} {key val : List UInt8} (hl : link.length = 32) (hS : All32 S) (hk : key.length = 32) (hv : val.length = 32) :
    ∀ t ∈ standT gone nm link bt S (endT there key val), t.length ≤ 67 := by
  intro t ht
  have ht : t ∈ valT gone nm link :: wayT bt S (endT there key val) := ht
  rcases List.mem_cons.1 ht with rfl | ht
  · exact Nat.le_trans (valT_le gone nm link hl) (by decide)
  · exact wayT_short bt S _ (endT_65 there key val hk hv) hS t ht
end Stn
end Go.Proofs.YtmonkggoilhngaaGreatDoor
/- A pair of texts is one. Conditions: none beyond the bounds of bytes. -/
namespace Go.Proofs.YtmonkggoilhngaaGreatDoor
open Go.RowKit Bits Mem Sha
namespace Stn
set_option maxRecDepth 100000 in
set_option maxHeartbeats 4000000 in
theorem pair_any {w : World} {qx qy : Option Addr} {cx cy : Nat} {X Y : List UInt8} (hS : Sha.Tabs w) (hx : Rd w 1 (.slice qx X.length cx) X.length (bys X)) (hy : Rd w 1 (.slice qy Y.length cy) Y.length (bys Y)) (hxl : X.length ≤ 1100000) (hyl : Y.length ≤ 1100000) (hne : X ≠ Y) (hs : sha X = sha Y) :
    Calls Tryz.prog 8 #[.slice qx X.length cx, .slice qy Y.length cy, .bool true] w fun e w' => e = .returned (.bool true) ∧ Below w.heap.size w w' := by
  have HCX : Hid ((convert 23 9 (.slice qx X.length cx)).run Tryz.prog w = .ok (.string ⟨X.toArray⟩) w) := Lib.hid (run_conv_str (P := Tryz.prog) hx 9 23 5 Tryz.underlying9 Tryz.underlying23 Tryz.underlying5)
  have HCY : Hid ((convert 23 9 (.slice qy Y.length cy)).run Tryz.prog w = .ok (.string ⟨Y.toArray⟩) w) := Lib.hid (run_conv_str (P := Tryz.prog) hy 9 23 5 Tryz.underlying9 Tryz.underlying23 Tryz.underlying5)
  obtain ⟨SX, hSX⟩ : ∃ SX : ByteArray, SX = ⟨X.toArray⟩ := ⟨_, rfl⟩
  obtain ⟨SY, hSY⟩ : ∃ SY : ByteArray, SY = ⟨Y.toArray⟩ := ⟨_, rfl⟩
  rw [← hSX] at HCX
  rw [← hSY] at HCY
  have HNE : Hid (SX.toList ≠ SY.toList) := Lib.hid (by rw [ByteArray.toList_eq, ByteArray.toList_eq, hSX, hSY]; exact fun h => hne (by simpa using h))
  obtain ⟨R, hR⟩ : ∃ R, R = sha X := ⟨_, rfl⟩
  have hRL : R.length = 32 := by rw [hR]; exact sha_length _
  obtain ⟨w1, hw1⟩ : ∃ w1, w1 = w.alloc (.cells #[.slice qx X.length cx] 23) := ⟨_, rfl⟩
  have hb1 : Below w.heap.size w w1 := by rw [hw1]; exact (Below.refl _ _).alloc (Nat.le_refl _) _
  have H1 : Hid (Calls Tryz.prog 19 #[.slice (some ⟨w.heap.size, 0, none⟩) 1 1] w1 fun e w' => e = .returned (.agg (bysA R)) ∧ Below w1.heap.size w1 w') := Lib.hid (by
    have := parts_any (some ⟨w.heap.size, 0, none⟩) 1 [X] w1 (hS.below hb1) (by rw [hw1]; exact Fnd.partsF w X _ ⟨_, _, rfl, hx⟩) (by simp; omega)
    rw [hR]
    simpa using this)
  have H2 : Hid (∀ w2, Below w.heap.size w w2 → Calls Tryz.prog 19 #[.slice (some ⟨w2.heap.size, 0, none⟩) 1 1] (w2.alloc (.cells #[.slice qy Y.length cy] 23)) fun e w' => e = .returned (.agg (bysA R)) ∧ Below w2.heap.size w2 w') := Lib.hid (fun w2 h2 => by
    have hbb : Below w2.heap.size w2 (w2.alloc (.cells #[.slice qy Y.length cy] 23)) := (Below.refl _ _).alloc (Nat.le_refl _) _
    have := parts_any (some ⟨w2.heap.size, 0, none⟩) 1 [Y] (w2.alloc (.cells #[.slice qy Y.length cy] 23)) (hS.below (h2.trans (hbb.mono h2.size))) (Fnd.partsF w2 Y _ ⟨_, _, rfl, hy.below h2⟩) (by simp; omega)
    refine this.mono fun e w' h => ⟨?_, hbb.trans (h.2.mono hbb.size)⟩
    have := h.1
    rw [hR, hs]
    simpa using this)
  have HQ : Hid (∀ w, (Op.equalIn 10000 22 (.agg (bysA R)) (.agg (bysA R))).run Tryz.prog w = .ok true w) := Lib.hid (fun w => (run_equalIn_bytes (P := Tryz.prog) w 9998 22 5 32 Tryz.underlying22 Tryz.underlying5 Ref.size_u8 R R hRL hRL).trans (by rw [beq_self_eq_true]))
  have HW1 := Lib.hid hw1
  have HB1 := Lib.hid hb1
  clear hS hx hy hne hs hSX hSY hR hw1 hb1 hRL
  go_enter Tryz.func8, Tryz.ntmps8
  go_wp2_with fail
  rw [HCX.out]
  go_wp2_with fail
  rw [HCY.out]
  go_wp2_with fail
  rw [show (!SX.toList == SY.toList) = true from by simp [HNE.out], ← HW1.out]
  refine H1.out.mono ?_
  rintro e w2 ⟨rfl, hb2⟩
  have HB2 := Lib.hid (HB1.out.trans (hb2.mono HB1.out.size))
  clear hb2
  go_wp2_with fail
  refine (H2.out w2 HB2.out).mono ?_
  rintro e w3 ⟨rfl, hb3⟩
  have HB3 := Lib.hid (HB2.out.trans (hb3.mono HB2.out.size))
  clear hb3
  go_wp2_with fail
  rw [HQ.out]
  refine (show Oper.upon _ _ _ _ _ (.ok (Next.value (Value.bool true)) w3) from ?_)
  go_wp2_with fail
  go_ret
  exact ⟨rfl, HB3.out⟩
end Stn
end Go.Proofs.YtmonkggoilhngaaGreatDoor

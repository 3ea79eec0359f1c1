/- A part of the proof. Plain; no condition. -/
import Derived.Test.YtjkbpdobeljmjaaGreatDoorP3
import Derived.Test.YtjkbpdobeljmjaaGreatDoorCards
import Derived.Test.YtjkbpdobeljmjaaGreatDoorTie
import Derived.ProofKit
import Derived.OpenShut
import Derived.Deep.DeepHandedRow
import Derived.Lib.LaidTab
import Derived.ReadAgain
import Derived.Carry
import Derived.Deep.Matrix
/- The walks of sha2: Sum of nil, Sum of parts. -/
namespace Go.Proofs.YtjkbpdobeljmjaaGreatDoor
open Go.RowKit Bits Mem
namespace Sha
theorem Rd_own_lt {w : World} {size : Nat} {v : Value} {n : Nat} {xs : List Value} (h : Rd w size v n xs) {k : Nat} (hk : v.ownBlock = some k) : k < w.heap.size := by
  rcases h.2 with ⟨rfl, _⟩ | ⟨b, off, cap, rfl, hb, _⟩
  · cases hk
  · cases hk; exact hb
def Parts (w : World) (v : Value) (L : List (List UInt8)) : Prop :=
  ∃ vs : List Value, Rd w 1 v L.length vs ∧ ∀ i, i < L.length → ∃ q c, vs[i]? = some (.slice q (L.getD i []).length c) ∧ Rd w 1 (.slice q (L.getD i []).length c) (L.getD i []).length (bys (L.getD i []))
theorem flatten_take_succ (L : List (List UInt8)) (k : Nat) (h : k < L.length) : (L.take (k + 1)).flatten = (L.take k).flatten ++ L.getD k [] := by
  rw [List.take_succ_eq_append_getElem h, List.flatten_append]; simp [List.getD, h]
theorem flatten_take_le (L : List (List UInt8)) (k : Nat) (h : k < L.length) : (L.take k).flatten.length + (L.getD k []).length ≤ L.flatten.length := by
  have h1 := flatten_take_succ L k h
  have h2 : L.flatten = (L.take (k + 1)).flatten ++ (L.drop (k + 1)).flatten := by rw [← List.flatten_append, List.take_append_drop]
  rw [h2, h1]; simp only [List.length_append]; omega
set_option maxRecDepth 100000 in
set_option maxHeartbeats 1000000 in
theorem parts_any (q : Option Addr) (c : Nat) (L : List (List UInt8)) (w : World) (hT : Tabs w) (hp : Parts w (.slice q L.length c) L) (hsz : L.flatten.length ≤ 70368744177664) :
    Calls Tryz.prog 54 #[.slice q L.length c] w fun e w' => e = .returned (.agg (bysA (sha L.flatten))) ∧ Below w.heap.size w w' := by
  go_enter Tryz.func54, Tryz.ntmps54
  go_wp2_with fail
  refine (new_any _ (hT.below ((Below.refl _ _).alloc (Nat.le_refl _) _))).mono ?_
  rintro e w1 ⟨hb, rfl, hh, hge, hb1⟩
  have hB : Below (w.heap.size + 1) (w.alloc (.cells (bysA zeros32) 22)) w1 := hb1.mono (by rw [World.size_alloc]; exact Nat.le_refl _)
  have hB' : Below w.heap.size w w1 := ((Below.refl w.heap.size w).alloc (Nat.le_refl _) _).trans (hB.mono (by omega))
  have hge' : w.heap.size + 1 ≤ hb := by rw [World.size_alloc] at hge; exact hge
  have hr : w1.heap[w.heap.size]? = some (.cells (bysA zeros32) 22 (0, 0)) := Rg.below_row hB (by omega) (Rg.heap_alloc_at _ _ _ rfl)
  have HT1 := Lib.hid (hT.below hB')
  have HH := Lib.hid hh
  have HR := Lib.hid hr
  have HB' := Lib.hid hB'
  have hL : L.length ≤ 9223372036854775807 := by
    obtain ⟨vs, h1, _⟩ := hp
    rcases h1.2 with ⟨_, h0⟩ | ⟨_, _, cap, _, _, hnc, hcm, _⟩
    · omega
    · unfold maxLen at hcm; omega
  clear hh hb1 hB hB' hge hr
  go_wp2_with fail
  have HP := Lib.hid hp; clear hp
  go_loopw [9] (fun i wr => ∃ k : Nat, k ≤ L.length ∧ i = .int .i64 k ∧ HashAt wr hb (L.take k).flatten ∧ Below w.heap.size w wr ∧ wr.heap[w.heap.size]? = some (.cells (bysA zeros32) 22 (0, 0))) (fun i _ => L.length - (intOf i).toNat)
  case atStart => exact ⟨0, Nat.zero_le _, rfl, HH.out, HB'.out, HR.out⟩
  case round =>
    obtain ⟨k, hk, rfl, hhk, hbk, hrk⟩ := hrel
    have hTk := hT.below hbk
    have HTK := Lib.hid hTk; clear hTk
    have HHK := Lib.hid hhk; clear hhk
    have HRK := Lib.hid hrk; clear hrk
    by_cases hlt : k < L.length
    · obtain ⟨vs, hv0, hv2⟩ := HP.out
      have hv1 := hv0.below hbk
      obtain ⟨b, off, rfl, hbl, hnc, hcm, hcell⟩ := Rd_lt hv1 (by omega)
      obtain ⟨qk, ck, hvk, hrdk0⟩ := hv2 k hlt
      have hck := hcell k _ hvk
      have hrdk := hrdk0.below hbk
      have hqk : (Value.slice qk (L.getD k []).length ck).ownBlock ≠ some hb := fun e => by have := Rd_own_lt hrdk0 e; omega
      clear hv0 hrdk0
      have hlen := flatten_take_le L k hlt
      have hfs := flatten_take_succ L k hlt
      obtain ⟨X, hX⟩ : ∃ X, X = L.getD k [] := ⟨_, rfl⟩
      obtain ⟨Y, hY⟩ : ∃ Y, Y = (L.take k).flatten := ⟨_, rfl⟩
      rw [← hX, ← hY] at hlen hfs
      rw [← hX] at hck hrdk hqk
      rw [← hY] at HHK
      have HFS := Lib.hid hfs
      have HX := Lib.hid hX
      have HRDK := Lib.hid hrdk
      clear hfs hX hY hcell hv1 hv2 hvk hrdk
      go_wp2_with (go_at_call 100; go_must (refine (write_any hb Y X qk ck _ HTK.out HHK.out HRDK.out hqk (by omega)).mono ?_); rintro e w3 ⟨rfl, hh3, hg3⟩)
      have hlw : w.heap.size < wr.heap.size := lt_of_heap HRK.out
      refine ⟨⟨k + 1, by omega, rfl, ?_, ?_, ?_⟩, by simp [intOf]; omega⟩
      · rw [HFS.out]; exact hh3
      · exact hbk.trans (below_of_grown hg3 hbk.size (fun j hj => by have e' : hb = j := Option.some.inj hj; omega))
      · exact (hg3.block _ hlw (by intro e; have e' : w.heap.size = hb := Option.some.inj e; omega)).trans HRK.out
    · obtain rfl : k = L.length := by omega
      have HTAKE : Hid ((L.take L.length).flatten = L.flatten) := Lib.hid (by rw [List.take_of_length_le (Nat.le_refl _)])
      rw [HTAKE.out] at HHK
      have HI : Hid ((Tryz.prog.info? 22).map (·.size) = some (bysA (sha L.flatten)).size) := Lib.hid (by rw [bysA_size, sha_length]; exact info32)
      have HZ : Hid ((bysA zeros32).size = (bysA (sha L.flatten)).size) := Lib.hid (by rw [bysA_size, bysA_size, sha_length]; rfl)
      go_wp2_with fail
      refine (sum_some hb L.flatten _ HTK.out HHK.out hsz).mono ?_
      rintro e w2 ⟨rfl, hb2⟩
      have HB2 := Lib.hid hb2
      have HR2 := Lib.hid (Rg.below_row hb2 (lt_of_heap HRK.out) HRK.out)
      clear hb2
      go_wp2_with (refine Rg.store_row rfl 22 _ _ rfl w.heap.size rfl 22 (bysA zeros32) (bysA (sha L.flatten)) rfl HR2.out HI.out HZ.out (bysA_one _) ?_)
      refine bodyPost_ret (v := .agg (bysA (sha L.flatten))) (results_cell_row (P := Tryz.prog) rfl _ _ w.heap.size 22 (bysA (sha L.flatten)) (0, 0) _ rfl (setRow_heap _ _ _ _ 22 _ HR2.out) Tryz.underlying22 rfl HI.out) rfl ⟨rfl, ?_⟩
      exact Rg.below_setRow (hbk.trans (HB2.out.mono hbk.size)) (Nat.le_refl _) _
end Sha
end Go.Proofs.YtjkbpdobeljmjaaGreatDoor

/- What each law's proof has in common: from the reading of the arguments to the walk's facts, and from the walk's end to the row's post. -/
namespace Go.Proofs.YtjkbpdobeljmjaaGreatDoor
open Go.ChangeShapes Go.WideShapes Go.ChangeAt Go.RowKit Mem
namespace Wrap
set_option maxRecDepth 100000 in
theorem own : ownKnob Tryz.prog.godebug = none := by kernel_rfl
set_option maxRecDepth 100000 in
theorem laidOut : laidOutB Tryz.prog = true := by kernel_rfl
set_option maxRecDepth 100000 in
theorem mapsRow : mapsRowed Tryz.prog = true := by kernel_rfl
set_option maxRecDepth 100000 in
theorem sliceFull : ((List.range Tryz.prog.types.size).all fun t => match Tryz.prog.underlying t with | some (.slice e) => decide (0 < Tryz.prog.cellsOf e) | _ => true) = true := by kernel_rfl
section
variable {H : Type} {enc : TypeId × Value → H} {P : Program}
set_option maxRecDepth 100000 in
theorem post_of_below {f : Func} {s : ChangeSpec} {apart fresh handsOn again : Bool} {W W' : World} {args : Array Value} {v : Value} {ds gs : List (DataW H)} {before pa pv : List MemPlace}
    (hW : DataW.Whole enc P f.params.toList s.vars apart W args.toList ds gs before)
    (hres : ∀ (b : Nat) (sp : Nat → Bool) (hd : Bool), DataW.TrodAll enc P W' b sp hd f.resultTypes.toList (v.resultList f.resultTypes.size) (s.fn H (ds ++ gs)).results [])
    (hargs : ∀ sp : Nat → Bool, (∀ p ∈ before, sp p.block = true) → DataW.TrodAll enc P W' 0 sp true f.params.toList args.toList (s.fn H (ds ++ gs)).args pa)
    (hvars : ∀ sp : Nat → Bool, (∀ p ∈ before, sp p.block = true) → DataW.TrodVars enc P W' sp s.vars (s.fn H (ds ++ gs)).vars pv)
    (hps : before = pa ++ pv) (hb : Below W.heap.size W W')
    (hok : ∀ (j : Nat) (t : TypeId) (r : Value), f.resultTypes[j]? = some t → (v.resultList f.resultTypes.size)[j]? = some r → Value.okWide P W' .any 0 t r) :
    s.post enc P f apart fresh handsOn again W args v W' := by
  have hlt : ∀ p ∈ before, p.block < W.heap.size := fun p hp => hW.lt p hp
  have hold : ∀ p ∈ before, (fun b => decide (b < W.heap.size)) p.block = true := fun p hp => by simpa using hlt p hp
  refine ⟨ds, gs, before, [], pa, pv, hW, hres _ _ _, hargs _ hold, hvars _ hold, World.keptBut_mono (fun p hp => ⟨hp, ?_⟩) (hb.frame (· ∈ before)), fun _ => ?_⟩
  · rw [hps, List.mem_append] at hp
    exact Or.inr hp
  · obtain ⟨_, _, _, _, _, hz, hn⟩ := hW
    refine ⟨hok, _, _, ([] ++ pa) ++ pv, ⟨[] ++ pa, pv, trodAll_append (hargs _ (fun _ _ => rfl)) (hres _ _ _), hvars _ (fun _ _ => rfl), rfl, ?_, ?_⟩, ?_⟩
    · intro b off hp
      have hin : MemPlace.cell b off ∈ before := by rw [hps]; simpa using hp
      rw [hb.frozen (hlt _ hin)]
      exact hz b off hin
    · intro ha
      have := hn ha
      rw [hps] at this
      simpa using this
    · intro p hp _
      rw [hps]
      simpa using hp
set_option maxRecDepth 100000 in
theorem trodAll_carry {w w' : World} {base : Nat} {spare : Nat → Bool} {held : Bool} : ∀ {ts : List TypeId} {vs : List Value} {ds : List (DataW H)} {ps : List MemPlace},
    DataW.TrodAll enc P w base spare held ts vs ds ps → (∀ p ∈ ps, w.sameAt w' p) → DataW.TrodAll enc P w' base spare held ts vs ds ps
  | [], [], [], _, h, _ => h
  | _ :: _, _ :: _, _ :: _, _, ⟨p, q, ⟨n, h1⟩, h2, e⟩, hs =>
    ⟨p, q, ⟨n, DataW.trod_carry n _ _ _ h1 (fun x hx => hs x (by rw [e]; exact List.mem_append_left _ hx))⟩, trodAll_carry h2 (fun x hx => hs x (by rw [e]; exact List.mem_append_right _ hx)), e⟩
set_option maxRecDepth 100000 in
theorem law_post {f : Func} {s : ChangeSpec} {t : TypeId} {apart fresh handsOn again : Bool} {W W' : World} {args : Array Value} {ds gs : List (DataW H)} {before : List MemPlace}
    (hl : laidOutB P = true) (hm : mapsRowed P = true) (hz : ((List.range P.types.size).all fun t => match P.underlying t with | some (.slice e) => decide (0 < P.cellsOf e) | _ => true) = true)
    (hts : (f.params.toList.all fun t => decide (t < P.types.size)) = true) (hr : f.resultTypes = #[t]) (ht : P.underlying t = some .bool) (hv : s.vars = [])
    (hW : DataW.Whole enc P f.params.toList s.vars apart W args.toList ds gs before) (hs : ∀ gs, gs = [] → s.fn H (ds ++ gs) = { results := [.lit (.bool true)], args := ds }) (hb : Below W.heap.size W W') :
    s.post enc P f apart fresh handsOn again W args (.bool true) W' := by
  have hlt : ∀ p ∈ before, p.block < W.heap.size := fun p hp => hW.lt p hp
  have hW0 := hW
  obtain ⟨p, q, hA, hV, rfl, _, _⟩ := hW0
  rw [hv] at hV
  obtain ⟨rfl, rfl⟩ := trodVars_none hV
  have hs' := hs [] rfl
  refine post_of_below (pa := p) (pv := []) hW ?_ ?_ ?_ rfl hb (ok_one hr rfl (okWide_bool_mk ht _))
  · intro b sp hd
    rw [hs', hr]
    exact trodAll_mk1 (shut_bool ht true)
  · intro sp hsp
    rw [hs']
    refine trodAll_carry (w := W) ((DataW.TrodAll.respare (kids_rows hl hm) (slices_full_of P hz) (fun t ht => ?_) hA) (fun x hx => hsp x (List.mem_append_left _ hx))) (fun x hx => hb.same (hlt x (List.mem_append_left _ hx)))
    have := List.all_eq_true.1 hts t ht
    simpa using this
  · intro sp _
    rw [hs', hv]
    exact rfl
set_option maxRecDepth 100000 in
theorem laid_mem {W : World} : ∀ {laid : List (String × DataW Unit)} {ps : List MemPlace}, DataW.LaidVars P W laid ps → ∀ x ∈ laid, ∃ g t cs fuel p, P.globalNamed x.1 = some g ∧ (P.globals[g]?).map (·.type) = some t ∧ W.var? P x.1 = some cs ∧
    DataW.trod (fun _ => ()) P W 0 (fun _ => true) false fuel t cs.toList = some (x.2, p)
  | [], _, _, x, hx => by cases hx
  | (n, d) :: r, ps, h, x, hx => by
    obtain ⟨g, t, cs, fuel, p, q, h1, h2, h3, h4, h5, _⟩ := h
    rcases List.mem_cons.1 hx with rfl | hx
    · exact ⟨g, t, cs, fuel, p, h1, h2, h3, h4⟩
    · exact laid_mem h5 x hx
set_option maxRecDepth 100000 in
theorem tab_row {W : World} {name : String} {k : IntKind} {zs : List Int} {laid : List (String × DataW Unit)} {g : Nat} {t e : TypeId} {n : Nat}
    (hg : P.globalNamed name = some g) (hty : (P.globals[g]?).map (·.type) = some t) (ht : P.underlying t = some (.array n e)) (he : P.underlying e = some (.int k)) (hce : P.cellsOf e = 1) (hct : P.cellsOf t = n)
    (h : laidMet P laid W) (hx : (name, Lib.tabData k zs) ∈ laid) : ∃ t' f, W.heap[g]? = some (.cells (zs.map fun z => Value.int k z).toArray t' f) := by
  obtain ⟨ps, h, _⟩ := h
  obtain ⟨g', t', cs, fuel, p, hg', ht', hvar, hd⟩ := laid_mem h _ hx
  obtain rfl := Option.some.inj (hg.symm.trans hg')
  obtain rfl := Option.some.inj (hty.symm.trans ht')
  have hc := Lib.cells_of_tab ht he hce hct hd
  unfold World.var? at hvar
  rw [hg] at hvar
  simp only [Option.bind_some] at hvar
  split at hvar
  · rename_i cs' t' f hh
    cases hvar
    exact ⟨t', f, by rw [hh, ← hc]⟩
  · cases hvar
end
set_option maxRecDepth 100000 in
theorem sha_tabs {W : World} {laid : List (String × DataW Unit)} (h : laidMet Tryz.prog laid W) (h1 : ("custumal/sha2.start", Rows.laid_custumal_sha2_start) ∈ laid) (h2 : ("custumal/sha2.rounds", Rows.laid_custumal_sha2_rounds) ∈ laid) : Sha.Tabs W :=
  ⟨tab_row (zs := Sha.HH.map Bits.n32) (g := 3) (t := 297) (e := 296) (n := 8) (by kernel_rfl) (by kernel_rfl) (by kernel_rfl) (by kernel_rfl) (by kernel_rfl) (by kernel_rfl) h (by exact h1),
   tab_row (zs := Sha.KK.map Bits.n32) (g := 6) (t := 356) (e := 296) (n := 64) (by kernel_rfl) (by kernel_rfl) (by kernel_rfl) (by kernel_rfl) (by kernel_rfl) (by kernel_rfl) h (by exact h2)⟩
end Wrap
end Go.Proofs.YtjkbpdobeljmjaaGreatDoor

/- Arguments opened: slices of bytes, slices of slices of bytes. -/
namespace Go.Proofs.YtjkbpdobeljmjaaGreatDoor
open Go.ChangeShapes Go.WideShapes Go.ChangeAt Go.RowKit Mem Sha
namespace Wrap
section
variable {H : Type} {enc : TypeId × Value → H} {W : World} {base : Nat} {d : DataW H} {p : List MemPlace} {v : Value}
set_option maxRecDepth 100000 in
theorem addr_plain {a : Addr} (h : a.spot = none) : a = ⟨a.block, a.off, none⟩ := by cases a; simp at h; subst h; rfl
set_option maxRecDepth 100000 in
theorem open_i64 (hv : Value.okWide Tryz.prog W .any base 3 v) : ∃ n, v = .int .i64 n ∧ -9223372036854775808 ≤ n ∧ n ≤ 9223372036854775807 := by
  unfold Value.okWide at hv
  rw [Tryz.underlying3] at hv
  cases v <;> simp only [Cell.okWide, Tryz.underlying3, Cell.ok] at hv
  rename_i k n
  obtain ⟨rfl, h⟩ := hv
  refine ⟨n, rfl, ?_⟩
  simpa [IntKind.has, IntKind.min, IntKind.max, IntKind.signed, IntKind.bits] using h
set_option maxRecDepth 100000 in
theorem cellTypes32 : Tryz.prog.cellTypes Tryz.prog.depth 22 = some (List.replicate 32 5) := by kernel_rfl
set_option maxRecDepth 100000 in
theorem bytes_of (cs : List Value) (h : ∀ v ∈ cs, ∃ b : UInt8, v = .int .u8 (b.toNat : Int)) : ∃ l : List UInt8, cs = bys l := by
  induction cs with
  | nil => exact ⟨[], rfl⟩
  | cons v cs ih =>
    obtain ⟨b, rfl⟩ := h v List.mem_cons_self
    obtain ⟨l, rfl⟩ := ih (fun v hv => h v (List.mem_cons_of_mem _ hv))
    exact ⟨b :: l, rfl⟩
set_option maxRecDepth 100000 in
theorem open_arr32 (hv : Value.okWide Tryz.prog W .any base 22 v) : ∃ l : List UInt8, v = .agg (bysA l) ∧ l.length = 32 := by
  unfold Value.okWide at hv
  rw [Tryz.underlying22] at hv
  obtain ⟨cs, rfl, hsz, ts, hts, _, hc⟩ := hv
  obtain rfl : List.replicate 32 5 = ts := Option.some.inj (cellTypes32.symm.trans hts)
  have h32 : cs.size = 32 := hsz.trans (by kernel_rfl)
  obtain ⟨l, hl⟩ := bytes_of cs.toList (fun v hv => by
    obtain ⟨i, hi⟩ := List.mem_iff_getElem?.1 hv
    obtain ⟨u, hu, hok⟩ := hc i v (by simpa using hi)
    have hu' : u = 5 := by
      have := List.mem_of_getElem? hu
      simpa using this
    subst hu'
    cases v <;> simp only [Cell.okWide, Tryz.underlying5, Cell.ok] at hok
    rename_i k n
    obtain ⟨rfl, hr⟩ := hok
    have hr' : 0 ≤ n ∧ n ≤ 255 := by simpa [IntKind.has, IntKind.min, IntKind.max, IntKind.signed, IntKind.bits] using hr
    refine ⟨UInt8.ofNat n.toNat, ?_⟩
    congr 1
    rw [UInt8.toNat_ofNat']
    omega)
  have hc' : cs = bysA l := by
    unfold bysA
    rw [← hl]
  refine ⟨l, by rw [hc'], ?_⟩
  rw [hc', bysA_size] at h32
  exact h32
end
end Wrap
end Go.Proofs.YtjkbpdobeljmjaaGreatDoor


/- What each law's proof has in common: from the reading of the arguments to the walk's facts, and from the walk's end to the row's post. -/
import Derived.Test.YtmonkggoilhngaaGreatDoorGShaD
import Derived.Test.YtmonkggoilhngaaGreatDoorCards
import Derived.Test.YtmonkggoilhngaaGreatDoorTie
import Derived.ProofKit
import Derived.OpenShut
import Derived.Deep.DeepHandedRow
import Derived.Lib.LaidTab
import Derived.ReadAgain
import Derived.Carry
import Derived.Deep.Matrix
namespace Go.Proofs.YtmonkggoilhngaaGreatDoor
open Go.ChangeShapes Go.WideShapes Go.ChangeAt Go.RowKit Mem
namespace Wrap
set_option maxRecDepth 100000 in
theorem own : ownKnob Tryz.prog.godebug = none := by kernel_rfl
set_option maxRecDepth 100000 in
theorem laidOut : laidOutB Tryz.prog = true := by kernel_rfl
set_option maxRecDepth 100000 in
theorem mapsRow : mapsRowed Tryz.prog = true := by kernel_rfl
set_option maxRecDepth 100000 in
theorem sliceFull : ((List.range Tryz.prog.types.size).all fun t => match Tryz.prog.underlying t with | some (.slice e) => decide (0 < Tryz.prog.cellsOf e) | _ => true) = true := by kernel_rfl
set_option maxRecDepth 100000 in
theorem cellsU8 : Tryz.prog.cellsOf 5 = 1 := by kernel_rfl
theorem cellsSl : Tryz.prog.cellsOf 23 = 1 := by kernel_rfl
section
variable {H : Type} {enc : TypeId × Value → H} {P : Program}
set_option maxRecDepth 100000 in
theorem post_of_below {f : Func} {s : ChangeSpec} {apart fresh handsOn again : Bool} {W W' : World} {args : Array Value} {v : Value} {ds gs : List (DataW H)} {before pa pv : List MemPlace}
    (hW : DataW.Whole enc P f.params.toList s.vars apart W args.toList ds gs before)
    (hres : ∀ (b : Nat) (sp : Nat → Bool) (hd : Bool), DataW.TrodAll enc P W' b sp hd f.resultTypes.toList (v.resultList f.resultTypes.size) (s.fn H (ds ++ gs)).results [])
    (hargs : ∀ sp : Nat → Bool, (∀ p ∈ before, sp p.block = true) → DataW.TrodAll enc P W' 0 sp true f.params.toList args.toList (s.fn H (ds ++ gs)).args pa)
    (hvars : ∀ sp : Nat → Bool, (∀ p ∈ before, sp p.block = true) → DataW.TrodVars enc P W' sp s.vars (s.fn H (ds ++ gs)).vars pv)
    (hps : before = pa ++ pv) (hb : Below W.heap.size W W')
    (hok : ∀ (j : Nat) (t : TypeId) (r : Value), f.resultTypes[j]? = some t → (v.resultList f.resultTypes.size)[j]? = some r → Value.okWide P W' .any 0 t r) :
    s.post enc P f apart fresh handsOn again W args v W' := by
  have hlt : ∀ p ∈ before, p.block < W.heap.size := fun p hp => hW.lt p hp
  have hold : ∀ p ∈ before, (fun b => decide (b < W.heap.size)) p.block = true := fun p hp => by simpa using hlt p hp
  refine ⟨ds, gs, before, [], pa, pv, hW, hres _ _ _, hargs _ hold, hvars _ hold, World.keptBut_mono (fun p hp => ⟨hp, ?_⟩) (hb.frame (· ∈ before)), fun _ => ?_⟩
  · rw [hps, List.mem_append] at hp
    exact Or.inr hp
  · obtain ⟨_, _, _, _, _, hz, hn⟩ := hW
    refine ⟨hok, _, _, ([] ++ pa) ++ pv, ⟨[] ++ pa, pv, trodAll_append (hargs _ (fun _ _ => rfl)) (hres _ _ _), hvars _ (fun _ _ => rfl), rfl, ?_, ?_⟩, ?_⟩
    · intro b off hp
      have hin : MemPlace.cell b off ∈ before := by rw [hps]; simpa using hp
      rw [hb.frozen (hlt _ hin)]
      exact hz b off hin
    · intro ha
      have := hn ha
      rw [hps] at this
      simpa using this
    · intro p hp _
      rw [hps]
      simpa using hp
set_option maxRecDepth 100000 in
theorem trodAll_carry {w w' : World} {base : Nat} {spare : Nat → Bool} {held : Bool} : ∀ {ts : List TypeId} {vs : List Value} {ds : List (DataW H)} {ps : List MemPlace},
    DataW.TrodAll enc P w base spare held ts vs ds ps → (∀ p ∈ ps, w.sameAt w' p) → DataW.TrodAll enc P w' base spare held ts vs ds ps
  | [], [], [], _, h, _ => h
  | _ :: _, _ :: _, _ :: _, _, ⟨p, q, ⟨n, h1⟩, h2, e⟩, hs =>
    ⟨p, q, ⟨n, DataW.trod_carry n _ _ _ h1 (fun x hx => hs x (by rw [e]; exact List.mem_append_left _ hx))⟩, trodAll_carry h2 (fun x hx => hs x (by rw [e]; exact List.mem_append_right _ hx)), e⟩
set_option maxRecDepth 100000 in
theorem law_post {f : Func} {s : ChangeSpec} {t : TypeId} {apart fresh handsOn again : Bool} {W W' : World} {args : Array Value} {ds gs : List (DataW H)} {before : List MemPlace}
    (hl : laidOutB P = true) (hm : mapsRowed P = true) (hz : ((List.range P.types.size).all fun t => match P.underlying t with | some (.slice e) => decide (0 < P.cellsOf e) | _ => true) = true)
    (hts : (f.params.toList.all fun t => decide (t < P.types.size)) = true) (hr : f.resultTypes = #[t]) (ht : P.underlying t = some .bool) (hv : s.vars = [])
    (hW : DataW.Whole enc P f.params.toList s.vars apart W args.toList ds gs before) (hs : ∀ gs, gs = [] → s.fn H (ds ++ gs) = { results := [.lit (.bool true)], args := ds }) (hb : Below W.heap.size W W') :
    s.post enc P f apart fresh handsOn again W args (.bool true) W' := by
  have hlt : ∀ p ∈ before, p.block < W.heap.size := fun p hp => hW.lt p hp
  have hW0 := hW
  obtain ⟨p, q, hA, hV, rfl, _, _⟩ := hW0
  rw [hv] at hV
  obtain ⟨rfl, rfl⟩ := trodVars_none hV
  have hs' := hs [] rfl
  refine post_of_below (pa := p) (pv := []) hW ?_ ?_ ?_ rfl hb (ok_one hr rfl (okWide_bool_mk ht _))
  · intro b sp hd
    rw [hs', hr]
    exact trodAll_mk1 (shut_bool ht true)
  · intro sp hsp
    rw [hs']
    refine trodAll_carry (w := W) ((DataW.TrodAll.respare (kids_rows hl hm) (slices_full_of P hz) (fun t ht => ?_) hA) (fun x hx => hsp x (List.mem_append_left _ hx))) (fun x hx => hb.same (hlt x (List.mem_append_left _ hx)))
    have := List.all_eq_true.1 hts t ht
    simpa using this
  · intro sp _
    rw [hs', hv]
    exact rfl
set_option maxRecDepth 100000 in
theorem laid_mem {W : World} : ∀ {laid : List (String × DataW Unit)} {ps : List MemPlace}, DataW.LaidVars P W laid ps → ∀ x ∈ laid, ∃ g t cs fuel p, P.globalNamed x.1 = some g ∧ (P.globals[g]?).map (·.type) = some t ∧ W.var? P x.1 = some cs ∧
    DataW.trod (fun _ => ()) P W 0 (fun _ => true) false fuel t cs.toList = some (x.2, p)
  | [], _, _, x, hx => by cases hx
  | (n, d) :: r, ps, h, x, hx => by
    obtain ⟨g, t, cs, fuel, p, q, h1, h2, h3, h4, h5, _⟩ := h
    rcases List.mem_cons.1 hx with rfl | hx
    · exact ⟨g, t, cs, fuel, p, h1, h2, h3, h4⟩
    · exact laid_mem h5 x hx
set_option maxRecDepth 100000 in
theorem tab_row {W : World} {name : String} {k : IntKind} {zs : List Int} {laid : List (String × DataW Unit)} {g : Nat} {t e : TypeId} {n : Nat}
    (hg : P.globalNamed name = some g) (hty : (P.globals[g]?).map (·.type) = some t) (ht : P.underlying t = some (.array n e)) (he : P.underlying e = some (.int k)) (hce : P.cellsOf e = 1) (hct : P.cellsOf t = n)
    (h : laidMet P laid W) (hx : (name, Lib.tabData k zs) ∈ laid) : ∃ t' f, W.heap[g]? = some (.cells (zs.map fun z => Value.int k z).toArray t' f) := by
  obtain ⟨ps, h, _⟩ := h
  obtain ⟨g', t', cs, fuel, p, hg', ht', hvar, hd⟩ := laid_mem h _ hx
  obtain rfl := Option.some.inj (hg.symm.trans hg')
  obtain rfl := Option.some.inj (hty.symm.trans ht')
  have hc := Lib.cells_of_tab ht he hce hct hd
  unfold World.var? at hvar
  rw [hg] at hvar
  simp only [Option.bind_some] at hvar
  split at hvar
  · rename_i cs' t' f hh
    cases hvar
    exact ⟨t', f, by rw [hh, ← hc]⟩
  · cases hvar
end
set_option maxRecDepth 100000 in
theorem sha_tabs {W : World} {laid : List (String × DataW Unit)} (h : laidMet Tryz.prog laid W) (h1 : ("custumal/sha2.start", Rows.laid_custumal_sha2_start) ∈ laid) (h2 : ("custumal/sha2.rounds", Rows.laid_custumal_sha2_rounds) ∈ laid) : Sha.Tabs W :=
  ⟨tab_row (zs := Sha.HH.map Bits.n32) (g := 0) (t := 129) (e := 128) (n := 8) (by kernel_rfl) (by kernel_rfl) (by kernel_rfl) (by kernel_rfl) (by kernel_rfl) (by kernel_rfl) h (by exact h1),
   tab_row (zs := Sha.KK.map Bits.n32) (g := 1) (t := 160) (e := 128) (n := 64) (by kernel_rfl) (by kernel_rfl) (by kernel_rfl) (by kernel_rfl) (by kernel_rfl) (by kernel_rfl) h (by exact h2)⟩
end Wrap
end Go.Proofs.YtmonkggoilhngaaGreatDoor
/- Arguments opened: slices of bytes, slices of slices of bytes. -/
namespace Go.Proofs.YtmonkggoilhngaaGreatDoor
open Go.ChangeShapes Go.WideShapes Go.ChangeAt Go.RowKit Mem Sha
namespace Wrap
section
variable {H : Type} {enc : TypeId × Value → H} {W : World} {base : Nat} {d : DataW H} {p : List MemPlace} {v : Value}
set_option maxRecDepth 100000 in
theorem bytes_back (zs : List Int) (h : ∀ n ∈ zs, (Lit.int .u8 n).wf = true) : ∃ l : List UInt8, zs = l.map (fun b => (b.toNat : Int)) := by
  induction zs with
  | nil => exact ⟨[], rfl⟩
  | cons z zs ih =>
    obtain ⟨l, hl⟩ := ih (fun n hn => h n (List.mem_cons_of_mem _ hn))
    have h1 := h z List.mem_cons_self
    have h2 : 0 ≤ z ∧ z ≤ 255 := by
      simp [Lit.wf, IntKind.min, IntKind.max, IntKind.signed, IntKind.bits] at h1
      omega
    refine ⟨UInt8.ofNat z.toNat :: l, ?_⟩
    rw [List.map_cons, ← hl]
    congr 1
    rw [UInt8.toNat_ofNat']
    omega
set_option maxRecDepth 100000 in
theorem addr_plain {a : Addr} (h : a.spot = none) : a = ⟨a.block, a.off, none⟩ := by cases a; simp at h; subst h; rfl
set_option maxRecDepth 100000 in
theorem open_bytes (hv : Value.okWide Tryz.prog W .any base 23 v) (h : DataW.Trod enc Tryz.prog W 0 (fun _ => true) true 23 v d p) :
    ∃ q c l, v = .slice q (List.length l) c ∧ Rd W 1 (.slice q l.length c) l.length (bys l) := by
  obtain ⟨fuel, h⟩ := h
  have hcs : v.cells.toList = [v] := by
    unfold Value.okWide at hv
    rw [Tryz.underlying23] at hv
    simp only [Cell.okWide, Tryz.underlying23, Cell.ok] at hv
    cases v <;> first | rfl | exact absurd hv (by simp)
  rw [hcs] at h
  rcases open_ints Tryz.underlying23 Tryz.underlying5 cellsU8 h with ⟨hc, _⟩ | ⟨a, len, cap, zs, hc, _, hl, hm, hz, _, hcell, hwf⟩
  · have : v = .slice none 0 0 := by simpa using hc
    subst this
    exact ⟨none, 0, [], rfl, Rd.nil _ _⟩
  · have hv' : v = .slice (some a) len cap := by simpa using hc
    subst hv'
    simp only [if_true] at hz
    have hs : a.spot = none ∧ a.block < W.heap.size := by
      unfold Value.okWide at hv
      rw [Tryz.underlying23] at hv
      simp only [Cell.okWide, Tryz.underlying23, Cell.ok] at hv
      obtain ⟨_, _, _, h1, row, cells, h2, _⟩ := hv
      refine ⟨h1, ?_⟩
      unfold World.shape? at h2
      rcases Nat.lt_or_ge a.block W.heap.size with h' | h'
      · exact h'
      · rw [Array.getElem?_eq_none h'] at h2; cases h2
    obtain ⟨l, hl'⟩ := bytes_back (zs.take len) (fun n hn => hwf n (List.mem_of_mem_take hn))
    have hll : l.length = len := by
      have := congrArg List.length hl'
      rw [List.length_take, List.length_map] at this; omega
    subst hll
    have ha := addr_plain hs.1
    refine ⟨some ⟨a.block, a.off, none⟩, cap, l, by rw [← ha], ?_⟩
    refine ⟨by rw [bys_length]; omega, .inr ⟨a.block, a.off, cap, rfl, hs.2, hl, hm, fun j u hu => ?_⟩⟩
    have hj : j < l.length := by have := (List.getElem?_eq_some_iff.1 hu).1; rwa [bys_length] at this
    have h1 := hcell j (by omega)
    rw [ha, addr_add] at h1
    rw [h1]
    have h2 : (zs.take l.length)[j]? = some (zs.getD j 0) := by
      rw [List.getElem?_take, if_pos hj]; simp [List.getD, show j < zs.length by omega]
    rw [hl', List.getElem?_map] at h2
    obtain ⟨b, hb, hb2⟩ := Option.map_eq_some_iff.1 h2
    rw [← hb2]
    rw [← hu]
    simp [bys, hb]
set_option maxRecDepth 100000 in
theorem cellTypes32 : Tryz.prog.cellTypes Tryz.prog.depth 22 = some (List.replicate 32 5) := by kernel_rfl
set_option maxRecDepth 100000 in
theorem bytes_of (cs : List Value) (h : ∀ v ∈ cs, ∃ b : UInt8, v = .int .u8 (b.toNat : Int)) : ∃ l : List UInt8, cs = bys l := by
  induction cs with
  | nil => exact ⟨[], rfl⟩
  | cons v cs ih =>
    obtain ⟨b, rfl⟩ := h v List.mem_cons_self
    obtain ⟨l, rfl⟩ := ih (fun v hv => h v (List.mem_cons_of_mem _ hv))
    exact ⟨b :: l, rfl⟩
set_option maxRecDepth 100000 in
theorem open_arr32 (hv : Value.okWide Tryz.prog W .any base 22 v) : ∃ l : List UInt8, v = .agg (bysA l) ∧ l.length = 32 := by
  unfold Value.okWide at hv
  rw [Tryz.underlying22] at hv
  obtain ⟨cs, rfl, hsz, ts, hts, _, hc⟩ := hv
  obtain rfl : List.replicate 32 5 = ts := Option.some.inj (cellTypes32.symm.trans hts)
  have h32 : cs.size = 32 := hsz.trans (by kernel_rfl)
  obtain ⟨l, hl⟩ := bytes_of cs.toList (fun v hv => by
    obtain ⟨i, hi⟩ := List.mem_iff_getElem?.1 hv
    obtain ⟨u, hu, hok⟩ := hc i v (by simpa using hi)
    have hu' : u = 5 := by
      have := List.mem_of_getElem? hu
      simpa using this
    subst hu'
    cases v <;> simp only [Cell.okWide, Tryz.underlying5, Cell.ok] at hok
    rename_i k n
    obtain ⟨rfl, hr⟩ := hok
    have hr' : 0 ≤ n ∧ n ≤ 255 := by simpa [IntKind.has, IntKind.min, IntKind.max, IntKind.signed, IntKind.bits] using hr
    refine ⟨UInt8.ofNat n.toNat, ?_⟩
    congr 1
    rw [UInt8.toNat_ofNat']
    omega)
  have hc' : cs = bysA l := by
    unfold bysA
    rw [← hl]
  refine ⟨l, by rw [hc'], ?_⟩
  rw [hc', bysA_size] at h32
  exact h32
end
end Wrap
end Go.Proofs.YtmonkggoilhngaaGreatDoor

/- What each law's proof has in common: from the reading of the arguments to the walk's facts, and from the walk's end to the row's post. -/
import Derived.Test.YtmkoiddfkanmiaaDoorSums
import Derived.Test.YtmkoiddfkanmiaaDoorCards
import Derived.Test.YtmkoiddfkanmiaaDoorTie
import Derived.ProofKit
import Derived.OpenShut
import Derived.Deep.DeepHandedRow
import Derived.Lib.LaidTab
import Derived.ReadAgain
import Derived.Carry
import Derived.Deep.Matrix
namespace Go.Proofs.YtmkoiddfkanmiaaDoor
open Go.ChangeShapes Go.WideShapes Go.ChangeAt Go.RowKit Mem
namespace Wrap
set_option maxRecDepth 100000 in
theorem own : ownKnob Tryd.prog.godebug = none := by kernel_rfl
set_option maxRecDepth 100000 in
theorem laidOut : laidOutB Tryd.prog = true := by kernel_rfl
set_option maxRecDepth 100000 in
theorem mapsRow : mapsRowed Tryd.prog = true := by kernel_rfl
set_option maxRecDepth 100000 in
theorem sliceFull : ((List.range Tryd.prog.types.size).all fun t => match Tryd.prog.underlying t with | some (.slice e) => decide (0 < Tryd.prog.cellsOf e) | _ => true) = true := by kernel_rfl
set_option maxRecDepth 100000 in
theorem cellsU8 : Tryd.prog.cellsOf 5 = 1 := by kernel_rfl
theorem cellsSl : Tryd.prog.cellsOf 24 = 1 := by kernel_rfl
section
variable {H : Type} {enc : TypeId × Value → H} {P : Program}
set_option maxRecDepth 100000 in
theorem post_of_below {f : Func} {s : ChangeSpec} {apart fresh handsOn again : Bool} {W W' : World} {args : Array Value} {v : Value} {ds gs : List (DataW H)} {before pa pv : List MemPlace}
    (hW : DataW.Whole enc P f.params.toList s.vars apart W args.toList ds gs before)
    (hres : ∀ (b : Nat) (sp : Nat → Bool) (hd : Bool), DataW.TrodAll enc P W' b sp hd f.resultTypes.toList (v.resultList f.resultTypes.size) (s.fn H (ds ++ gs)).results [])
    (hargs : ∀ sp : Nat → Bool, (∀ p ∈ before, sp p.block = true) → DataW.TrodAll enc P W' 0 sp true f.params.toList args.toList (s.fn H (ds ++ gs)).args pa)
    (hvars : ∀ sp : Nat → Bool, (∀ p ∈ before, sp p.block = true) → DataW.TrodVars enc P W' sp s.vars (s.fn H (ds ++ gs)).vars pv)
    (hps : before = pa ++ pv) (hb : Below W.heap.size W W')
    (hok : ∀ (j : Nat) (t : TypeId) (r : Value), f.resultTypes[j]? = some t → (v.resultList f.resultTypes.size)[j]? = some r → Value.okWide P W' .any 0 t r) :
    s.post enc P f apart fresh handsOn again W args v W' := by
  have hlt : ∀ p ∈ before, p.block < W.heap.size := fun p hp => hW.lt p hp
  have hold : ∀ p ∈ before, (fun b => decide (b < W.heap.size)) p.block = true := fun p hp => by simpa using hlt p hp
  refine ⟨ds, gs, before, [], pa, pv, hW, hres _ _ _, hargs _ hold, hvars _ hold, World.keptBut_mono (fun p hp => ⟨hp, ?_⟩) (hb.frame (· ∈ before)), fun _ => ?_⟩
  · rw [hps, List.mem_append] at hp
    exact Or.inr hp
  · obtain ⟨_, _, _, _, _, hz, hn⟩ := hW
    refine ⟨hok, _, _, ([] ++ pa) ++ pv, ⟨[] ++ pa, pv, trodAll_append (hargs _ (fun _ _ => rfl)) (hres _ _ _), hvars _ (fun _ _ => rfl), rfl, ?_, ?_⟩, ?_⟩
    · intro b off hp
      have hin : MemPlace.cell b off ∈ before := by rw [hps]; simpa using hp
      rw [hb.frozen (hlt _ hin)]
      exact hz b off hin
    · intro ha
      have := hn ha
      rw [hps] at this
      simpa using this
    · intro p hp _
      rw [hps]
      simpa using hp
set_option maxRecDepth 100000 in
theorem trodAll_carry {w w' : World} {base : Nat} {spare : Nat → Bool} {held : Bool} : ∀ {ts : List TypeId} {vs : List Value} {ds : List (DataW H)} {ps : List MemPlace},
    DataW.TrodAll enc P w base spare held ts vs ds ps → (∀ p ∈ ps, w.sameAt w' p) → DataW.TrodAll enc P w' base spare held ts vs ds ps
  | [], [], [], _, h, _ => h
  | _ :: _, _ :: _, _ :: _, _, ⟨p, q, ⟨n, h1⟩, h2, e⟩, hs =>
    ⟨p, q, ⟨n, DataW.trod_carry n _ _ _ h1 (fun x hx => hs x (by rw [e]; exact List.mem_append_left _ hx))⟩, trodAll_carry h2 (fun x hx => hs x (by rw [e]; exact List.mem_append_right _ hx)), e⟩
set_option maxRecDepth 100000 in
/-- The post of a law: true, and each argument reads as it did. -/
theorem law_post {f : Func} {s : ChangeSpec} {t : TypeId} {apart fresh handsOn again : Bool} {W W' : World} {args : Array Value} {ds gs : List (DataW H)} {before : List MemPlace}
    (hl : laidOutB P = true) (hm : mapsRowed P = true) (hz : ((List.range P.types.size).all fun t => match P.underlying t with | some (.slice e) => decide (0 < P.cellsOf e) | _ => true) = true)
    (hts : (f.params.toList.all fun t => decide (t < P.types.size)) = true) (hr : f.resultTypes = #[t]) (ht : P.underlying t = some .bool) (hv : s.vars = [])
    (hW : DataW.Whole enc P f.params.toList s.vars apart W args.toList ds gs before) (hs : ∀ gs, gs = [] → s.fn H (ds ++ gs) = { results := [.lit (.bool true)], args := ds }) (hb : Below W.heap.size W W') :
    s.post enc P f apart fresh handsOn again W args (.bool true) W' := by
  have hlt : ∀ p ∈ before, p.block < W.heap.size := fun p hp => hW.lt p hp
  have hW0 := hW
  obtain ⟨p, q, hA, hV, rfl, _, _⟩ := hW0
  rw [hv] at hV
  obtain ⟨rfl, rfl⟩ := trodVars_none hV
  have hs' := hs [] rfl
  refine post_of_below (pa := p) (pv := []) hW ?_ ?_ ?_ rfl hb (ok_one hr rfl (okWide_bool_mk ht _))
  · intro b sp hd
    rw [hs', hr]
    exact trodAll_mk1 (shut_bool ht true)
  · intro sp hsp
    rw [hs']
    refine trodAll_carry (w := W) ((DataW.TrodAll.respare (kids_rows hl hm) (slices_full_of P hz) (fun t ht => ?_) hA) (fun x hx => hsp x (List.mem_append_left _ hx))) (fun x hx => hb.same (hlt x (List.mem_append_left _ hx)))
    have := List.all_eq_true.1 hts t ht
    simpa using this
  · intro sp _
    rw [hs', hv]
    exact rfl
set_option maxRecDepth 100000 in
/-- What the row's list gives of each variable on it. -/
theorem laid_mem {W : World} : ∀ {laid : List (String × DataW Unit)} {ps : List MemPlace}, DataW.LaidVars P W laid ps → ∀ x ∈ laid, ∃ g t cs fuel p, P.globalNamed x.1 = some g ∧ (P.globals[g]?).map (·.type) = some t ∧ W.var? P x.1 = some cs ∧
    DataW.trod (fun _ => ()) P W 0 (fun _ => true) false fuel t cs.toList = some (x.2, p)
  | [], _, _, x, hx => by cases hx
  | (n, d) :: r, ps, h, x, hx => by
    obtain ⟨g, t, cs, fuel, p, q, h1, h2, h3, h4, h5, _⟩ := h
    rcases List.mem_cons.1 hx with rfl | hx
    · exact ⟨g, t, cs, fuel, p, h1, h2, h3, h4⟩
    · exact laid_mem h5 x hx
set_option maxRecDepth 100000 in
theorem tab_row {W : World} {name : String} {k : IntKind} {zs : List Int} {laid : List (String × DataW Unit)} {g : Nat} {t e : TypeId} {n : Nat}
    (hg : P.globalNamed name = some g) (hty : (P.globals[g]?).map (·.type) = some t) (ht : P.underlying t = some (.array n e)) (he : P.underlying e = some (.int k)) (hce : P.cellsOf e = 1) (hct : P.cellsOf t = n)
    (h : laidMet P laid W) (hx : (name, Lib.tabData k zs) ∈ laid) : ∃ t' f, W.heap[g]? = some (.cells (zs.map fun z => Value.int k z).toArray t' f) := by
  obtain ⟨ps, h, _⟩ := h
  obtain ⟨g', t', cs, fuel, p, hg', ht', hvar, hd⟩ := laid_mem h _ hx
  obtain rfl := Option.some.inj (hg.symm.trans hg')
  obtain rfl := Option.some.inj (hty.symm.trans ht')
  have hc := Lib.cells_of_tab ht he hce hct hd
  unfold World.var? at hvar
  rw [hg] at hvar
  simp only [Option.bind_some] at hvar
  split at hvar
  · rename_i cs' t' f hh
    cases hvar
    exact ⟨t', f, by rw [hh, ← hc]⟩
  · cases hvar
end
set_option maxRecDepth 100000 in
theorem sha_tabs {W : World} {laid : List (String × DataW Unit)} (h : laidMet Tryd.prog laid W) (h1 : ("custumal/sha2.start", Rows.laid_custumal_sha2_start) ∈ laid) (h2 : ("custumal/sha2.rounds", Rows.laid_custumal_sha2_rounds) ∈ laid) : Sha.Tabs W :=
  ⟨tab_row (zs := Sha.HH.map Bits.n32) (g := 2) (t := 138) (e := 137) (n := 8) (by kernel_rfl) (by kernel_rfl) (by kernel_rfl) (by kernel_rfl) (by kernel_rfl) (by kernel_rfl) h (by exact h1),
   tab_row (zs := Sha.KK.map Bits.n32) (g := 3) (t := 149) (e := 137) (n := 64) (by kernel_rfl) (by kernel_rfl) (by kernel_rfl) (by kernel_rfl) (by kernel_rfl) (by kernel_rfl) h (by exact h2)⟩
set_option maxRecDepth 100000 in
theorem ref_tabs {W : World} {laid : List (String × DataW Unit)} (h : laidMet Tryd.prog laid W) (h1 : ("custumal/custumalref01.H", Rows.laid_custumal_custumalref01_H) ∈ laid) (h2 : ("custumal/custumalref01.K", Rows.laid_custumal_custumalref01_K) ∈ laid) : Ref.Tabs W :=
  ⟨tab_row (zs := Sha.HH.map Bits.n32) (g := 0) (t := 128) (e := 3) (n := 8) (by kernel_rfl) (by kernel_rfl) (by kernel_rfl) (by kernel_rfl) (by kernel_rfl) (by kernel_rfl) h (by exact h1),
   tab_row (zs := Sha.KK.map Bits.n32) (g := 1) (t := 129) (e := 3) (n := 64) (by kernel_rfl) (by kernel_rfl) (by kernel_rfl) (by kernel_rfl) (by kernel_rfl) (by kernel_rfl) h (by exact h2)⟩
end Wrap
end Go.Proofs.YtmkoiddfkanmiaaDoor

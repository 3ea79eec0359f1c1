/- A map from sums (32 bytes) to rows: what its operations do, entry by entry. -/
import Derived.Test.YtmonkggoilhngaaGreatDoorGShaD
import Derived.Test.YtmonkggoilhngaaGreatDoorGSlM
import Derived.Test.YtmonkggoilhngaaGreatDoorGConcW
import Derived.Test.YtmonkggoilhngaaGreatDoorGCadA
import Derived.Test.YtmonkggoilhngaaGreatDoorGTenA
import Derived.Test.YtmonkggoilhngaaGreatDoorGL32P
import Derived.Test.YtmonkggoilhngaaGreatDoorGRef
import Derived.WideKeyArr
import Derived.WideKeyElems
import Derived.Carry
import Derived.MapKept
namespace Go.Proofs.YtmonkggoilhngaaGreatDoor
open Go.RowKit Bits Mem Sha Go.WideMaps Go.MapKept
namespace Mg
theorem arrK : ArrKey Tryz.prog 22 5 32 := ⟨Tryz.underlying22, by kernel_rfl, by kernel_rfl, by kernel_rfl⟩
theorem lawK : KeyLaw Tryz.prog 22 := arrK.law
theorem sizeT : ∃ m, Tryz.prog.types.size = m + 1 := ⟨Tryz.prog.types.size - 1, by kernel_rfl⟩
theorem mapM_some {α β : Type} {f : α → Option β} {g : α → β} : ∀ (l : List α), (∀ i ∈ l, f i = some (g i)) → l.mapM f = some (l.map g)
  | [], _ => rfl
  | a :: l, h => by
    rw [List.mapM_cons, h a (List.mem_cons_self ..), mapM_some l (fun i hi => h i (List.mem_cons_of_mem _ hi))]
    rfl
theorem keyOfK (s : List UInt8) (hs : s.length = 32) : ∃ l, keyOf Tryz.prog 22 (.agg (bysA s)) = some l := by
  have hkt := arrK.keyType sizeT
  obtain ⟨m, hm⟩ := sizeT
  have hsz : (bysA s).size = 32 := by rw [bysA_size, hs]
  have hl : (bysA s).toList.length = 32 := by rw [Array.length_toList]; exact hsz
  unfold keyOf
  simp only [arrK.hu]
  rw [if_pos (by simp [hkt, Value.formed, arrK.hu, arrK.size, hsz]), hm]
  unfold Program.keyLits
  simp only [arrK.hu, Value.cells]
  rw [if_pos (by rw [arrK.size]; exact hl)]
  rw [mapM_some (g := fun i => [Lit.int .u8 ((bt s i).toNat : Int)]) (List.range 32) (fun i hi => ?_)]
  · exact ⟨_, rfl⟩
  · have hi32 := List.mem_range.1 hi
    rw [arrK.one, Nat.mul_one]
    have hget : (bysA s).toList[i]? = some (.int .u8 ((bt s i).toNat : Int)) := by
      have := bys_get s i (by omega)
      show (bys s)[i]? = _
      rw [this]
      rfl
    have hdr : ((bysA s).toList.drop i).take 1 = [.int .u8 ((bt s i).toNat : Int)] := by
      rw [List.take_one, List.head?_drop, hget]
      rfl
    rw [hdr]
    unfold Program.keyLits
    simp only [Tryz.underlying5]
    rw [if_pos]
    refine ⟨trivial, ?_⟩
    have := (bt s i).toNat_lt
    simp [Lit.wf, IntKind.min, IntKind.max, IntKind.signed, IntKind.bits]
    omega
theorem bysA_inj {a b : List UInt8} (h : (Value.agg (bysA a)) = .agg (bysA b)) : a = b := by
  have h1 : bysA a = bysA b := by injection h
  have h2 : bys a = bys b := by
    have := congrArg Array.toList h1
    exact this
  unfold bys at h2
  refine List.map_inj_right (f := fun (b : UInt8) => Value.int .u8 (b.toNat : Int)) (fun x y hxy => ?_) |>.1 h2
  injection hxy with _ h3
  exact UInt8.toNat_inj.1 (by omega)
structure Ent where
  key : List UInt8
  val : Value
  born : Nat
def ent (g : Ent) : MapEntry := ⟨.agg (bysA g.key), g.val, g.born⟩
def MapIs (w : World) (b : Nat) (G : List Ent) (clock : Nat) : Prop := w.heap[b]? = some (.map (G.map ent).toArray clock)
structure EntOk (G : List Ent) (clock : Nat) : Prop where
  len : ∀ g ∈ G, g.key.length = 32
  keys : (G.map (·.key)).Nodup
  stamps : (G.map (·.born)).Nodup
  past : ∀ g ∈ G, g.born < clock
def put (w : World) (b : Nat) (o : Obj) : World := { w with heap := w.heap.setIfInBounds b o }
theorem put_at {w : World} {b : Nat} {o o' : Obj} (h : w.heap[b]? = some o') : (put w b o).heap[b]? = some o := by
  have := (Array.getElem?_eq_some_iff.1 h).1
  show (w.heap.setIfInBounds b o)[b]? = _
  rw [Array.getElem?_setIfInBounds, if_pos rfl, if_pos this]
theorem put_other {w : World} {b j : Nat} {o : Obj} (h : j ≠ b) : (put w b o).heap[j]? = w.heap[j]? := by
  show (w.heap.setIfInBounds b o)[j]? = _
  rw [Array.getElem?_setIfInBounds, if_neg (fun e => h e.symm)]
theorem put_size (w : World) (b : Nat) (o : Obj) : (put w b o).heap.size = w.heap.size := by
  show (w.heap.setIfInBounds b o).size = _
  rw [Array.size_setIfInBounds]
theorem put_self {w : World} {b : Nat} {o : Obj} (h : w.heap[b]? = some o) : put w b o = w := by
  have : w.heap.setIfInBounds b o = w.heap := by
    apply Array.ext_getElem?
    intro i
    rw [Array.getElem?_setIfInBounds]
    by_cases hi : b = i
    · subst hi; rw [if_pos rfl, h, if_pos (Array.getElem?_eq_some_iff.1 h).1]
    · rw [if_neg hi]
  unfold put
  rw [this]
theorem keys_known (G : List Ent) (hl : ∀ g ∈ G, g.key.length = 32) : ∀ e ∈ G.map ent, ∃ l, keyOf Tryz.prog 22 e.key = some l := by
  intro e he
  obtain ⟨g, hg, rfl⟩ := List.mem_map.1 he
  exact keyOfK g.key (hl g hg)
theorem find_new (w : World) {G : List Ent} {s : List UInt8} (hs : s.length = 32) (hl : ∀ g ∈ G, g.key.length = 32) (hn : ∀ g ∈ G, g.key ≠ s) : (Instr.findKey 22 (.agg (bysA s)) (G.map ent)).run Tryz.prog w = .ok none w := by
  obtain ⟨l, hk⟩ := keyOfK s hs
  rcases lawK.find w hk (G.map ent) (keys_known G hl) with ⟨h, _⟩ | ⟨j, e, _, h2, h3⟩
  · exact h
  · rw [List.getElem?_map] at h2
    obtain ⟨g, hg, rfl⟩ := Option.map_eq_some_iff.1 h2
    exact absurd (bysA_inj h3) (hn g (List.mem_of_getElem? hg))
theorem find_old (w : World) {G : List Ent} {s : List UInt8} (hs : s.length = 32) (hl : ∀ g ∈ G, g.key.length = 32) (hd : (G.map (·.key)).Nodup) {j : Nat} {g : Ent} (hg : G[j]? = some g) (he : g.key = s) : (Instr.findKey 22 (.agg (bysA s)) (G.map ent)).run Tryz.prog w = .ok (some (j, g.val)) w := by
  obtain ⟨l, hk⟩ := keyOfK s hs
  rcases lawK.find w hk (G.map ent) (keys_known G hl) with ⟨_, h⟩ | ⟨i, e, h1, h2, h3⟩
  · exact absurd (by show Value.agg (bysA g.key) = _; rw [he]) (h (ent g) (List.mem_map.2 ⟨g, List.mem_of_getElem? hg, rfl⟩))
  · rw [List.getElem?_map] at h2
    obtain ⟨g', hg', rfl⟩ := Option.map_eq_some_iff.1 h2
    have e1 : g'.key = g.key := (bysA_inj h3).trans he.symm
    have hi := (List.getElem?_eq_some_iff.1 hg')
    have hj := (List.getElem?_eq_some_iff.1 hg)
    have hij : i = j := by
      have h4 : (G.map (·.key))[i]? = (G.map (·.key))[j]? := by rw [List.getElem?_map, List.getElem?_map, hg, hg']; exact congrArg some e1
      exact (List.getElem?_inj (by rw [List.length_map]; exact hi.1) hd).1 h4
    subst hij
    rw [hg] at hg'
    cases hg'
    exact h1
theorem born_at {G : List Ent} (hd : (G.map (·.born)).Nodup) {j : Nat} {g : Ent} (hg : G[j]? = some g) : ((G.map ent).toArray).findIdx? (fun e => ((e.born : Nat) : Int) == ((g.born : Nat) : Int)) = some j := by
  rw [List.findIdx?_toArray, List.findIdx?_eq_some_iff_getElem]
  obtain ⟨hj, hv⟩ := List.getElem?_eq_some_iff.1 hg
  refine ⟨by rw [List.length_map]; exact hj, ?_, fun i hi => ?_⟩
  · simp [ent, hv]
  · simp only [List.getElem_map, ent]
    intro h
    have h1 : (G[i]'(by omega)).born = g.born := by
      have := beq_iff_eq.1 h
      omega
    have h4 : (G.map (·.born))[i]? = (G.map (·.born))[j]? := by rw [List.getElem?_map, List.getElem?_map, hg, List.getElem?_eq_getElem (by omega)]; exact congrArg some h1
    have := (List.getElem?_inj (by rw [List.length_map]; omega) hd).1 h4
    omega
theorem zeroR (w : World) : (zeroValue 73).run Tryz.prog w = .ok (.slice none 0 0) w := by kernel_rfl
theorem mapT : Tryz.prog.underlying 72 = some (.map 22 73) := Tryz.underlying72
theorem run_entry_new {w : World} {b clock : Nat} {G : List Ent} {s : List UInt8} (hb : MapIs w b G clock) (hs : s.length = 32) (ho : EntOk G clock) (hn : ∀ g ∈ G, g.key ≠ s) :
    (Instr.mapEntry 72 (.map (some b)) (.agg (bysA s))).run Tryz.prog w = .ok (.tuple #[.slice none 0 0, .int .i64 clock]) (put w b (.map ((G ++ [(⟨s, .slice none 0 0, clock⟩ : Ent)]).map ent).toArray (clock + 1))) := by
  obtain ⟨l, hk⟩ := keyOfK s hs
  have hb0 : w.heap[b]? = some (.map (G.map ent).toArray clock) := hb
  unfold Instr.mapEntry
  simp only [Sem.run_bind, run_underlying mapT, Result.andThen_ok, MapKept.run_getObj_map hb0, lawK.check w false hk, find_new w hs ho.len hn, zeroR, MapKept.run_setObj_map _ hb0, Sem.run_pure]
  have e : ((G.map ent).toArray).push ⟨.agg (bysA s), .slice none 0 0, clock⟩ = ((G ++ [(⟨s, .slice none 0 0, clock⟩ : Ent)]).map ent).toArray := by simp [ent]
  rw [e]
  rfl
theorem run_entry_old {w : World} {b clock : Nat} {G : List Ent} {s : List UInt8} (hb : MapIs w b G clock) (hs : s.length = 32) (ho : EntOk G clock) {j : Nat} {g : Ent} (hg : G[j]? = some g) (he : g.key = s) :
    (Instr.mapEntry 72 (.map (some b)) (.agg (bysA s))).run Tryz.prog w = .ok (.tuple #[g.val, .int .i64 g.born]) w := by
  obtain ⟨l, hk⟩ := keyOfK s hs
  have hgj : ((G.map ent).toArray)[j]? = some (ent g) := by simp [hg]
  have hmod : ((G.map ent).toArray).modify j (fun e => { e with key := .agg (bysA s) }) = (G.map ent).toArray := by
    apply Array.ext_getElem?
    intro i
    rw [Array.getElem?_modify]
    by_cases hi : j = i
    · subst hi
      rw [if_pos rfl, hgj]
      simp [ent, he]
    · rw [if_neg hi]
  have hst : (Instr.keyThatStays (ent g).key (.agg (bysA s))).run Tryz.prog w = .ok (.agg (bysA s)) w := by
    have : (ent g).key = .agg (bysA s) := by show Value.agg (bysA g.key) = _; rw [he]
    rw [this]
    exact lawK.stays w hk
  have hb0 : w.heap[b]? = some (.map (G.map ent).toArray clock) := hb
  unfold Instr.mapEntry
  simp only [Sem.run_bind, run_underlying mapT, Result.andThen_ok, MapKept.run_getObj_map hb0, lawK.check w false hk, find_old w hs ho.len ho.keys hg he, hgj, Option.map_some, Option.getD_some, hst, hmod, MapKept.run_setObj_map _ hb0, Sem.run_pure]
  show Result.ok _ (put w b _) = Result.ok _ _
  rw [put_self hb]
  rfl
theorem run_estore {w : World} {b clock : Nat} {G : List Ent} (hb : MapIs w b G clock) (hd : (G.map (·.born)).Nodup) {j : Nat} {g : Ent} (hg : G[j]? = some g) (v : Value) :
    (Instr.entryStore 72 (.map (some b)) (.int .i64 g.born) v).run Tryz.prog w = .ok () (put w b (.map ((G.set j (⟨g.key, v, g.born⟩ : Ent)).map ent).toArray clock)) := by
  have hmod : ((G.map ent).toArray).modify j (fun e => { e with val := v }) = ((G.set j (⟨g.key, v, g.born⟩ : Ent)).map ent).toArray := by
    apply Array.ext_getElem?
    intro i
    rw [Array.getElem?_modify]
    by_cases hi : j = i
    · subst hi
      rw [if_pos rfl]
      have hj := (List.getElem?_eq_some_iff.1 hg)
      simp [ent, hj.1, hj.2]
    · rw [if_neg hi]
      simp [hi]
  have hbn := born_at hd hg
  have hb0 : w.heap[b]? = some (.map (G.map ent).toArray clock) := hb
  unfold Instr.entryStore
  simp only [Sem.run_bind, Result.andThen_ok, MapKept.run_getObj_map hb0, asInt, asIntOf, Sem.run_pure, hbn, hmod, MapKept.run_setObj_map _ hb0]
  rfl
theorem run_look_old {w : World} {b clock : Nat} {G : List Ent} {s : List UInt8} (hb : MapIs w b G clock) (hs : s.length = 32) (ho : EntOk G clock) {j : Nat} {g : Ent} (hg : G[j]? = some g) (he : g.key = s) :
    (Instr.lookup 72 (.map (some b)) (.agg (bysA s)) false).run Tryz.prog w = .ok g.val w := by
  obtain ⟨l, hk⟩ := keyOfK s hs
  have hb0 : w.heap[b]? = some (.map (G.map ent).toArray clock) := hb
  unfold Instr.lookup
  simp only [Sem.run_bind, run_underlying mapT, Result.andThen_ok, MapKept.run_getObj_map hb0, lawK.check w _ hk, find_old w hs ho.len ho.keys hg he, Sem.run_pure]
  rfl
theorem run_look_new {w : World} {b clock : Nat} {G : List Ent} {s : List UInt8} (hb : MapIs w b G clock) (hs : s.length = 32) (ho : EntOk G clock) (hn : ∀ g ∈ G, g.key ≠ s) :
    (Instr.lookup 72 (.map (some b)) (.agg (bysA s)) false).run Tryz.prog w = .ok (.slice none 0 0) w := by
  obtain ⟨l, hk⟩ := keyOfK s hs
  have hb0 : w.heap[b]? = some (.map (G.map ent).toArray clock) := hb
  unfold Instr.lookup
  simp only [Sem.run_bind, run_underlying mapT, Result.andThen_ok, MapKept.run_getObj_map hb0, lawK.check w _ hk, find_new w hs ho.len hn, zeroR, Sem.run_pure]
  rfl
section
variable {P : Program} {ops : Array Oper} {Q : Exit → Act → World → Prop} {a : Act} {w w' : World} {o : Oper} {rest : List Oper}
theorem l_entry (hg : o.guard = none) (t : TypeId) (m k : Operand) (ho : o.op = .mapEntry t m k) (vm vk u : Value) (hm : a.eval m = vm) (hk : a.eval k = vk) (hr : (Instr.mapEntry t vm vk).run P w = .ok u w')
    (h : wpList P ops Q rest (a.put o.dst u) w') : wpList P ops Q (o :: rest) a w :=
  wpList_plain hg fun K hK => by
    unfold Oper.wp
    simp [execOp, ho, hm, hk, hr, Result.andThen]
    exact hK _ _ h
theorem l_estore (hg : o.guard = none) (t : TypeId) (m s x : Operand) (ho : o.op = .entryStore t m s x) (vm vs vx : Value) (hm : a.eval m = vm) (hs : a.eval s = vs) (hx : a.eval x = vx) (hr : (Instr.entryStore t vm vs vx).run P w = .ok () w')
    (h : wpList P ops Q rest (a.put o.dst undef) w') : wpList P ops Q (o :: rest) a w :=
  wpList_plain hg fun K hK => by
    unfold Oper.wp
    simp [execOp, ho, hm, hs, hx, hr, Result.andThen]
    exact hK _ _ h
theorem l_look (hg : o.guard = none) (t : TypeId) (m k : Operand) (ho : o.op = .lookup t m k false) (vm vk u : Value) (hm : a.eval m = vm) (hk : a.eval k = vk) (hr : (Instr.lookup t vm vk false).run P w = .ok u w)
    (h : wpList P ops Q rest (a.put o.dst u) w) : wpList P ops Q (o :: rest) a w :=
  wpList_plain hg fun K hK => by
    unfold Oper.wp
    simp [execOp, ho, hm, hk, hr, Result.andThen]
    exact hK _ _ h
end
end Mg
end Go.Proofs.YtmonkggoilhngaaGreatDoor
/- extract.Find's helpers: bytes.Equal, the closure, slices.IndexFunc. -/
namespace Go.Proofs.YtmonkggoilhngaaGreatDoor
open Go.RowKit Bits Mem Sha
namespace Mem
theorem l_convF {P : Program} {ops : Array Oper} {Q : Exit → Act → World → Prop} {a : Act} {w : World} {o : Oper} {rest : List Oper} (hg : o.guard = none) (t ts : TypeId) (y : Operand) (ho : o.op = .convert t ts y) (v u : Value) (hx : a.eval y = v)
    (hr : (convert t ts v).run P w = .ok u w)
    (h : wpList P ops Q rest (a.put o.dst u) w) : wpList P ops Q (o :: rest) a w :=
  wpList_plain hg fun K hK => by
    unfold Oper.wp
    simp [execOp, ho, hx, hr, Result.andThen]
    exact hK _ _ h
end Mem
namespace Fnd
def idx (V : List (List UInt8)) (s : List UInt8) (k : Nat) : List Nat := (List.range k).filter fun j => sha (V.getD j []) == s
theorem idx_succ (V : List (List UInt8)) (s : List UInt8) (k : Nat) : idx V s (k + 1) = idx V s k ++ (if sha (V.getD k []) == s then [k] else []) := by
  unfold idx
  rw [List.range_succ, List.filter_append]
  congr 1
  simp only [List.filter_cons, List.filter_nil]
theorem idx_lt {V : List (List UInt8)} {s : List UInt8} {k j : Nat} (h : j ∈ idx V s k) : j < k := List.mem_range.1 (List.mem_filter.1 h).1
theorem idx_len (V : List (List UInt8)) (s : List UInt8) (k : Nat) : (idx V s k).length ≤ k := by
  unfold idx
  have := List.length_filter_le (fun j => sha (V.getD j []) == s) (List.range k)
  rwa [List.length_range] at this
def ints (L : List Nat) : List Value := L.map fun (k : Nat) => .int .i64 (k : Int)
theorem ints_one (L : List Nat) : ∀ u ∈ ints L, u.oneCell' = true := by
  intro u hu
  unfold ints at hu
  obtain ⟨k, _, rfl⟩ := List.mem_map.1 hu
  rfl
def firstBad (V : List (List UInt8)) (t : List UInt8) (I : List Nat) : Int := match I.findIdx? (fun k => V.getD k [] != t) with
  | some p => (p : Int)
  | none => -1
set_option maxRecDepth 100000 in
set_option maxHeartbeats 1000000 in
theorem equal_any (qa qb : Option Addr) (ca cb : Nat) (a b : List UInt8) (w : World) (ha : Rd w 1 (.slice qa a.length ca) a.length (bys a)) (hb : Rd w 1 (.slice qb b.length cb) b.length (bys b)) :
    Calls Tryz.prog 17 #[.slice qa a.length ca, .slice qb b.length cb] w fun e w' => e = .returned (.bool (a == b)) ∧ w' = w := by
  have HCA : Hid ((convert 23 9 (.slice qa a.length ca)).run Tryz.prog w = .ok (.string ⟨a.toArray⟩) w) := Lib.hid (run_conv_str (P := Tryz.prog) ha 9 23 5 Tryz.underlying9 Tryz.underlying23 Tryz.underlying5)
  have HCB : Hid ((convert 23 9 (.slice qb b.length cb)).run Tryz.prog w = .ok (.string ⟨b.toArray⟩) w) := Lib.hid (run_conv_str (P := Tryz.prog) hb 9 23 5 Tryz.underlying9 Tryz.underlying23 Tryz.underlying5)
  clear ha hb
  go_enter Tryz.func17, Tryz.ntmps17
  go_wp2_with (first | (refine l_convF rfl 23 9 _ rfl (.slice qa a.length ca) _ rfl HCA.out ?_) | (refine l_convF rfl 23 9 _ rfl (.slice qb b.length cb) _ rfl HCB.out ?_))
  go_ret
  exact ⟨rfl, rfl⟩
theorem part_at {w : World} {q : Option Addr} {c : Nat} {V : List (List UInt8)} (hp : Parts w (.slice q V.length c) V) {k : Nat} (hk : k < V.length) :
    ∃ b off qk ck, q = some ⟨b, off, none⟩ ∧ b < w.heap.size ∧ w.cell? ⟨b, off + k, none⟩ = some (.slice qk (V.getD k []).length ck) ∧ Rd w 1 (.slice qk (V.getD k []).length ck) (V.getD k []).length (bys (V.getD k [])) := by
  obtain ⟨vs, h1, h2⟩ := hp
  obtain ⟨qk, ck, hv, hr⟩ := h2 k hk
  obtain ⟨b, off, hq, hb, _, _, hc⟩ := Rd_lt h1 (by omega)
  exact ⟨b, off, qk, ck, hq, hb, hc k _ hv, hr⟩
set_option maxRecDepth 100000 in
set_option maxHeartbeats 1000000 in
theorem unlike_any (qb : Option Addr) (cb : Nat) (V : List (List UInt8)) (k pb pt : Nat) (qt : Option Addr) (ct : Nat) (t : List UInt8) (w : World) (hp : Parts w (.slice qb V.length cb) V) (hk : k < V.length)
    (hcb : w.cell? ⟨pb, 0, none⟩ = some (.slice qb V.length cb)) (hct : w.cell? ⟨pt, 0, none⟩ = some (.slice qt t.length ct)) (hpb : pb < w.heap.size) (hpt : pt < w.heap.size) (ht : Rd w 1 (.slice qt t.length ct) t.length (bys t)) :
    Calls Tryz.prog 21 #[.int .i64 k, .pointer (some ⟨pb, 0, none⟩), .pointer (some ⟨pt, 0, none⟩)] w fun e w' => e = .returned (.bool (V.getD k [] != t)) ∧ Below w.heap.size w w' := by
  obtain ⟨b, off, qk, ck, rfl, hb, hcell, hrd⟩ := part_at hp hk
  obtain ⟨x, hx⟩ : ∃ x, x = V.getD k [] := ⟨_, rfl⟩
  rw [← hx] at hcell hrd ⊢
  obtain ⟨z, hz⟩ : ∃ z, z = (x == t) := ⟨_, rfl⟩
  have HE : Hid (∀ y : World, Below w.heap.size w y → Calls Tryz.prog 17 #[.slice qk x.length ck, .slice qt t.length ct] y fun e w' => e = .returned (.bool z) ∧ w' = y) := Lib.hid (fun y hy => by rw [hz]; exact equal_any qk qt ck ct x t y (hrd.below hy) (ht.below hy))
  have HV : Hid ((x != t) = !z) := Lib.hid (by rw [hz]; rfl)
  have hkI : (k : Int) < (V.length : Int) := by omega
  clear hp hrd ht hx hz
  rw [HV.out]
  clear HV
  go_enter Tryz.func21, Tryz.ntmps21
  go_wp2_with fail
  refine Rc.region (w.heap.size) 7 [Rc.F 5 (fun _ => .bool z) (fun _ _ _ => True)] [] (by kernel_rfl) (Nat.le_refl _) (by kernel_rfl) ?_; intro p; simp only [List.take, List.drop]
  iterate 1 (refine Rc.rK rfl rfl ?_; intro K hK; apply Exists.intro; refine ⟨?_, ?_⟩; (focus (intro x hx; have d1 := Rc.cell_le hx hpb hcb; go_simp; (first | (fail) | ((try go_bits); (try go_simp); (try rfl))))); go_simp; refine hK _ ?_; clear hK K)
  iterate 2 (refine Rc.rK rfl rfl ?_; intro K hK; apply Exists.intro; refine ⟨?_, ?_⟩; (focus (intro x hx;  go_simp; (first | (fail) | ((try go_bits); (try go_simp); (try rfl))))); go_simp; refine hK _ ?_; clear hK K)
  iterate 1 (refine Rc.rK rfl rfl ?_; intro K hK; apply Exists.intro; refine ⟨?_, ?_⟩; (focus (intro x hx; have d1 := Rc.cell_le hx hb hcell; go_simp; (first | (fail) | ((try go_bits); (try go_simp); (try rfl))))); go_simp; refine hK _ ?_; clear hK K)
  iterate 1 (refine Rc.rK rfl rfl ?_; intro K hK; apply Exists.intro; refine ⟨?_, ?_⟩; (focus (intro x hx; have d1 := Rc.cell_le hx hpt hct; go_simp; (first | (fail) | ((try go_bits); (try go_simp); (try rfl))))); go_simp; refine hK _ ?_; clear hK K)
  refine Rc.fK rfl rfl rfl rfl ?_ ?_
  · intro x' Fs hx hle hg K hK
    have hck := HE.out x' (Rc.undrew hx)
    clear hg hle hx
    go_wp2_with fail
    refine hck.mono ?_
    rintro e y ⟨rfl, hy⟩
    obtain rfl : x' = y := hy.symm
    clear hy
    go_wp2_with fail
    exact hK ⟨none, 0, undef⟩ x' (Below.refl _ _) (fun _ _ _ _ => trivial)
  intro K hK; go_simp; refine hK _ ?_; clear hK K
  iterate 1 (refine Rc.rK rfl rfl ?_; intro K hK; apply Exists.intro; refine ⟨?_, ?_⟩; (focus (intro x hx;  go_simp; (first | (fail) | ((try go_bits); (try go_simp); (try rfl))))); go_simp; refine hK _ ?_; clear hK K)
  refine Rc.done fun wz Fs hx hle hg => ?_
  have HBZ : Hid (Below w.heap.size w wz) := Lib.hid (Rc.undrew hx)
  clear hx hle hg
  go_wp2_with fail
  refine NoPanic.normal ?_
  go_wp2_with fail
  go_ret
  exact ⟨rfl, HBZ.out⟩
theorem firstBad_at {V : List (List UInt8)} {t : List UInt8} {I : List Nat} {p : Nat} {k : Nat} (hk : I[p]? = some k) (hb : (V.getD k [] != t) = true) (ha : ∀ j x, j < p → I[j]? = some x → (V.getD x [] != t) = false) : firstBad V t I = p := by
  unfold firstBad
  have : I.findIdx? (fun k => V.getD k [] != t) = some p := by
    rw [List.findIdx?_eq_some_iff_getElem]
    obtain ⟨hp, hv⟩ := List.getElem?_eq_some_iff.1 hk
    refine ⟨hp, by rw [hv]; exact hb, fun j hj => ?_⟩
    rw [ha j _ hj (List.getElem?_eq_getElem (by omega))]
    decide
  rw [this]
theorem firstBad_none {V : List (List UInt8)} {t : List UInt8} {I : List Nat} (ha : ∀ (j x : Nat), I[j]? = some x → (V.getD x [] != t) = false) : firstBad V t I = -1 := by
  unfold firstBad
  have : I.findIdx? (fun k => V.getD k [] != t) = none := by
    rw [List.findIdx?_eq_none_iff]
    intro x hx
    obtain ⟨j, hj⟩ := List.mem_iff_getElem?.1 hx
    exact ha j x hj
  rw [this]
set_option maxRecDepth 100000 in
set_option maxHeartbeats 2000000 in
theorem indexfn_any (qi : Option Addr) (ci : Nat) (I : List Nat) (qb : Option Addr) (cb : Nat) (V : List (List UInt8)) (pb pt : Nat) (qt : Option Addr) (ct : Nat) (t : List UInt8) (w : World) (hI : Rd w 1 (.slice qi I.length ci) I.length (ints I)) (hIl : ∀ k ∈ I, k < V.length) (hil : I.length ≤ 1000000)
    (hp : Parts w (.slice qb V.length cb) V) (hcb : w.cell? ⟨pb, 0, none⟩ = some (.slice qb V.length cb)) (hct : w.cell? ⟨pt, 0, none⟩ = some (.slice qt t.length ct)) (hpb : pb < w.heap.size) (hpt : pt < w.heap.size) (ht : Rd w 1 (.slice qt t.length ct) t.length (bys t)) :
    Calls Tryz.prog 20 #[.slice qi I.length ci, .func (.func 21) #[] #[.pointer (some ⟨pb, 0, none⟩), .pointer (some ⟨pt, 0, none⟩)]] w fun e w' => e = .returned (.int .i64 (firstBad V t I)) ∧ Below w.heap.size w w' := by
  have HI := Lib.hid hI
  have HIL := Lib.hid hIl
  have HU : Hid (∀ (y : World) (k : Nat), Below w.heap.size w y → k < V.length → Calls Tryz.prog 21 #[.int .i64 k, .pointer (some ⟨pb, 0, none⟩), .pointer (some ⟨pt, 0, none⟩)] y fun e w' => e = .returned (.bool (V.getD k [] != t)) ∧ Below y.heap.size y w') := Lib.hid (fun y k hy hk => unlike_any qb cb V k pb pt qt ct t y (hp.below hy) hk ((Below.cell hy hpb).trans hcb) ((Below.cell hy hpt).trans hct) (Nat.lt_of_lt_of_le hpb hy.size) (Nat.lt_of_lt_of_le hpt hy.size) (ht.below hy))
  clear hI hIl hp hcb hct ht
  go_enter Tryz.func20, Tryz.ntmps20
  go_wp2_with fail
  go_loopw [8] (fun iv wr => ∃ p : Nat, p ≤ I.length ∧ iv = .int .i64 p ∧ Hid (∀ j x, j < p → I[j]? = some x → (V.getD x [] != t) = false) ∧ Hid (Below w.heap.size w wr)) (fun iv _ => I.length - (intOf iv).toNat)
  case atStart => exact ⟨0, Nat.zero_le _, rfl, Lib.hid (fun j x h => by omega), Lib.hid (Below.refl _ _)⟩
  case round =>
    obtain ⟨p, hp, rfl, HA, HB⟩ := hrel
    by_cases hlt : p < I.length
    · have hltI : (p : Int) < (I.length : Int) := by omega
      obtain ⟨k, hk⟩ : ∃ k, I[p]? = some k := ⟨_, List.getElem?_eq_getElem hlt⟩
      have HK := Lib.hid hk
      obtain ⟨bi, oi, rfl, hbi, _, _, hci⟩ := Rd_lt (HI.out.below HB.out) (by omega)
      have d1 := hci p (.int .i64 k) (by unfold ints; rw [List.getElem?_map, hk]; rfl)
      have hkv := HIL.out k (List.mem_of_getElem? hk)
      have HC := Lib.hid (HU.out wr k HB.out hkv)
      obtain ⟨z, hz⟩ : ∃ z, z = (V.getD k [] != t) := ⟨_, rfl⟩
      have HZ := Lib.hid hz
      rw [← hz] at HC
      clear hk hci hz
      cases z with
      | true =>
        have HF : Hid (firstBad V t I = p) := Lib.hid (firstBad_at HK.out HZ.out.symm HA.out)
        go_wp2_with fail
        refine HC.out.mono ?_
        rintro e w2 ⟨rfl, hb⟩
        have HB2 := Lib.hid (HB.out.trans (hb.mono HB.out.size))
        clear hb
        go_wp2_with fail
        go_ret
        exact ⟨by rw [HF.out]; rfl, HB2.out⟩
      | false =>
        go_wp2_with fail
        refine HC.out.mono ?_
        rintro e w2 ⟨rfl, hb⟩
        have HB2 := Lib.hid (HB.out.trans (hb.mono HB.out.size))
        clear hb
        go_wp2_with fail
        refine ⟨⟨p + 1, by omega, by go_num, Lib.hid (fun j x hj hx => ?_), HB2⟩, by simp [intOf]; omega⟩
        by_cases hjp : j = p
        · subst hjp
          have : some k = some x := HK.out.symm.trans hx
          cases this
          exact HZ.out.symm
        · exact HA.out j x (by omega) hx
    · have hltI : ¬ (p : Int) < (I.length : Int) := by omega
      have HF : Hid (firstBad V t I = -1) := Lib.hid (firstBad_none (fun j x hx => HA.out j x (by have := (List.getElem?_eq_some_iff.1 hx).1; omega) hx))
      go_wp2_with fail
      go_ret
      exact ⟨by rw [HF.out]; rfl, HB.out⟩
end Fnd
end Go.Proofs.YtmonkggoilhngaaGreatDoor
/- The map of extract.Find: which texts have which sum. -/
namespace Go.Proofs.YtmonkggoilhngaaGreatDoor
open Go.RowKit Bits Mem Sha Mg
namespace Mem
theorem Ow.typedF {w : World} {B s n : Nat} {e : TypeId} {v : Value} {xs : List Value} (h : Ow w B e s v n xs) {k : Nat} (hk : v.ownBlock = some k) : ∃ cur fz, w.heap[k]? = some (.cells cur e fz) := by
  rcases h.2 with ⟨rfl, _⟩ | ⟨g, cap, cur, fz, rfl, hb, hg, _⟩
  · cases hk
  · cases hk; exact ⟨cur, fz, hg⟩
end Mem
namespace Fnd
structure Grp (w : World) (B b k : Nat) (V : List (List UInt8)) (G : List Ent) (clock : Nat) : Prop where
  map : MapIs w b G clock
  ok : EntOk G clock
  rows : ∀ g ∈ G, ∃ q c, g.val = .slice q (idx V g.key k).length c ∧ Ow w B 3 1 (.slice q (idx V g.key k).length c) (idx V g.key k).length (ints (idx V g.key k))
  apart : ∀ (i j : Nat) (x y : Ent) (r : Nat), i ≠ j → G[i]? = some x → G[j]? = some y → x.val.ownBlock = some r → ¬ y.val.ownBlock = some r
  gone : ∀ s, (∀ g ∈ G, g.key ≠ s) → idx V s k = []
  ge : B ≤ b
section
variable {w w' : World} {B b k clock : Nat} {V : List (List UInt8)} {G : List Ent}
theorem Grp.lt (h : Grp w B b k V G clock) : b < w.heap.size := (Array.getElem?_eq_some_iff.1 h.map).1
theorem Grp.row (h : Grp w B b k V G clock) {g : Ent} (hg : g ∈ G) {r : Nat} (hr : g.val.ownBlock = some r) : B ≤ r ∧ r < w.heap.size ∧ r ≠ b := by
  obtain ⟨q, c, hv, ho⟩ := h.rows g hg
  rw [hv] at hr
  obtain ⟨h1, h2⟩ := ho.lt r hr
  refine ⟨h1, h2, fun e => ?_⟩
  subst e
  obtain ⟨cs, fz, hc⟩ := ho.typedF hr
  have := h.map
  unfold MapIs at this
  rw [this] at hc
  cases hc
theorem Grp.below (h : Grp w B b k V G clock) (hb : Below w.heap.size w w') : Grp w' B b k V G clock :=
  ⟨(hb.block b h.lt).trans h.map, h.ok, fun g hg => by
    obtain ⟨q, c, hv, ho⟩ := h.rows g hg
    exact ⟨q, c, hv, ho.below hb⟩, h.apart, h.gone, h.ge⟩
theorem Grp.new {w : World} {b B : Nat} (V : List (List UInt8)) (hm : w.heap[b]? = some (.map #[] 0)) (hB : B ≤ b) : Grp w B b 0 V [] 0 :=
  ⟨hm, ⟨fun g h => by simp at h, by simp, by simp, fun g h => by simp at h⟩, fun g h => by simp at h, fun i j x y r _ h => by simp at h, fun s _ => rfl, hB⟩
theorem mem_set {G : List Ent} {j : Nat} {y x : Ent} (hx : x ∈ G.set j y) : x = y ∨ ∃ i, i ≠ j ∧ G[i]? = some x := by
  obtain ⟨i, hi⟩ := List.mem_iff_getElem?.1 hx
  rw [List.getElem?_set] at hi
  by_cases hij : j = i
  · rw [if_pos hij] at hi
    split at hi
    · cases hi; exact .inl rfl
    · cases hi
  · rw [if_neg hij] at hi
    exact .inr ⟨i, fun e => hij e.symm, hi⟩
theorem keys_set {G : List Ent} {j : Nat} {g y : Ent} (hg : G[j]? = some g) (hk : y.key = g.key) (hb : y.born = g.born) : (G.set j y).map (·.key) = G.map (·.key) ∧ (G.set j y).map (·.born) = G.map (·.born) := by
  have hlt := List.getElem?_eq_some_iff.1 hg
  constructor
  · rw [List.map_set]
    apply List.ext_getElem?
    intro i
    rw [List.getElem?_set]
    by_cases hi : j = i
    · subst hi
      rw [if_pos rfl, if_pos (by rw [List.length_map]; exact hlt.1), List.getElem?_map, hg, hk]; rfl
    · rw [if_neg hi]
  · rw [List.map_set]
    apply List.ext_getElem?
    intro i
    rw [List.getElem?_set]
    by_cases hi : j = i
    · subst hi
      rw [if_pos rfl, if_pos (by rw [List.length_map]; exact hlt.1), List.getElem?_map, hg, hb]; rfl
    · rw [if_neg hi]
theorem idx_same {V : List (List UInt8)} {s : List UInt8} {k : Nat} (h : sha (V.getD k []) = s) : idx V s (k + 1) = idx V s k ++ [k] := by
  rw [idx_succ, if_pos (by rw [beq_iff_eq]; exact h)]
theorem idx_other {V : List (List UInt8)} {s : List UInt8} {k : Nat} (h : ¬ sha (V.getD k []) = s) : idx V s (k + 1) = idx V s k := by
  rw [idx_succ, if_neg (by rw [beq_iff_eq]; exact h), List.append_nil]
theorem Grp.old (h : Grp w B b k V G clock) {j : Nat} {g : Ent} (hg : G[j]? = some g) (he : sha (V.getD k []) = g.key) {w4 : World} {q' : Option Addr} {c' : Nat} (hgr : w.grownBy w4 g.val.ownBlock)
    (how : Ow w4 B 3 1 (.slice q' ((idx V g.key k).length + 1) c') ((idx V g.key k).length + 1) (ints (idx V g.key k) ++ [.int .i64 (k : Int)]))
    (hn : ∀ r, (Value.slice q' ((idx V g.key k).length + 1) c').ownBlock = some r → g.val.ownBlock = some r ∨ w.heap.size ≤ r) (hB : B ≤ w.heap.size) :
    MapIs w4 b G clock ∧ Grp (put w4 b (.map ((G.set j (⟨g.key, .slice q' ((idx V g.key k).length + 1) c', g.born⟩ : Ent)).map ent).toArray clock)) B b (k + 1) V (G.set j ⟨g.key, .slice q' ((idx V g.key k).length + 1) c', g.born⟩) clock ∧
      Below B w (put w4 b (.map ((G.set j (⟨g.key, .slice q' ((idx V g.key k).length + 1) c', g.born⟩ : Ent)).map ent).toArray clock)) := by
  have hgm := List.mem_of_getElem? hg
  have hlt := List.getElem?_eq_some_iff.1 hg
  have hbn : ¬ g.val.ownBlock = some b := fun e => (h.row hgm e).2.2 rfl
  have hm4 : MapIs w4 b G clock := (hgr.block b h.lt (fun e => hbn e.symm)).trans h.map
  obtain ⟨o, ho⟩ : ∃ o, o = Obj.map ((G.set j (⟨g.key, .slice q' ((idx V g.key k).length + 1) c', g.born⟩ : Ent)).map ent).toArray clock := ⟨_, rfl⟩
  rw [← ho]
  have hoth : ∀ r, r ≠ b → (put w4 b o).heap[r]? = w4.heap[r]? := fun r hr => put_other hr
  have hrow' : ∀ r, (Value.slice q' ((idx V g.key k).length + 1) c').ownBlock = some r → r ≠ b := fun r hr e => by
    subst e
    obtain ⟨cs, fz, hc⟩ := how.typedF hr
    have := hm4
    unfold MapIs at this
    rw [this] at hc
    cases hc
  obtain ⟨hks, hbs⟩ := keys_set (y := ⟨g.key, .slice q' ((idx V g.key k).length + 1) c', g.born⟩) hg rfl rfl
  refine ⟨hm4, ⟨?_, ⟨fun x hx => ?_, by rw [hks]; exact h.ok.keys, by rw [hbs]; exact h.ok.stamps, fun x hx => ?_⟩, fun x hx => ?_, fun i i' x y r hne hx hy hxr hyr => ?_, fun s hs => ?_, h.ge⟩, ?_⟩
  · unfold MapIs; rw [put_at hm4, ho]
  · rcases mem_set hx with rfl | ⟨i, _, hi⟩
    · exact h.ok.len g hgm
    · exact h.ok.len x (List.mem_of_getElem? hi)
  · rcases mem_set hx with rfl | ⟨i, _, hi⟩
    · exact h.ok.past g hgm
    · exact h.ok.past x (List.mem_of_getElem? hi)
  · rcases mem_set hx with rfl | ⟨i, hij, hi⟩
    · refine ⟨q', c', ?_, ?_⟩
      · show Value.slice _ _ _ = _
        rw [idx_same he, List.length_append]; rfl
      · show Ow _ _ _ _ (.slice q' (idx V g.key (k + 1)).length c') _ (ints (idx V g.key (k + 1)))
        rw [idx_same he, List.length_append]
        have e1 : ints (idx V g.key k ++ [k]) = ints (idx V g.key k) ++ [.int .i64 (k : Int)] := by unfold ints; rw [List.map_append]; rfl
        rw [e1]
        exact how.atM (fun r hr => hoth r (hrow' r hr))
    · have hxm := List.mem_of_getElem? hi
      obtain ⟨qx, cx, hv, hox⟩ := h.rows x hxm
      have hkk : ¬ sha (V.getD k []) = x.key := by
        intro e
        have h4 : (G.map (·.key))[i]? = (G.map (·.key))[j]? := by rw [List.getElem?_map, List.getElem?_map, hg, hi]; exact congrArg some (e.symm.trans he)
        exact hij ((List.getElem?_inj (by rw [List.length_map]; exact (List.getElem?_eq_some_iff.1 hi).1) h.ok.keys).1 h4)
      refine ⟨qx, cx, by rw [hv, idx_other hkk], ?_⟩
      rw [idx_other hkk]
      refine hox.atM (fun r hr => ?_)
      have hr' : x.val.ownBlock = some r := by rw [hv]; exact hr
      have hrl := h.row hxm hr'
      rw [hoth r hrl.2.2]
      exact hgr.block r hrl.2.1 (fun e => h.apart i j x g r hij hi hg hr' e.symm)
  · have hcase : ∀ (i : Nat) (x : Ent), (G.set j (⟨g.key, .slice q' ((idx V g.key k).length + 1) c', g.born⟩ : Ent))[i]? = some x → (i = j ∧ x.val = .slice q' ((idx V g.key k).length + 1) c') ∨ (i ≠ j ∧ G[i]? = some x) := by
      intro i x hx
      rw [List.getElem?_set] at hx
      by_cases hij : j = i
      · rw [if_pos hij] at hx
        split at hx
        · cases hx; exact .inl ⟨hij.symm, rfl⟩
        · cases hx
      · rw [if_neg hij] at hx
        exact .inr ⟨fun e => hij e.symm, hx⟩
    rcases hcase i x hx with ⟨rfl, hxv⟩ | ⟨hij, hx'⟩
    · rcases hcase i' y hy with ⟨rfl, _⟩ | ⟨hij', hy'⟩
      · exact hne rfl
      · rw [hxv] at hxr
        rcases hn r hxr with hr | hr
        · exact h.apart i i' g y r hne hg hy' hr hyr
        · have := (h.row (List.mem_of_getElem? hy') hyr).2.1; omega
    · rcases hcase i' y hy with ⟨rfl, hyv⟩ | ⟨hij', hy'⟩
      · rw [hyv] at hyr
        rcases hn r hyr with hr | hr
        · exact h.apart i i' x g r hne hx' hg hxr hr
        · have := (h.row (List.mem_of_getElem? hx') hxr).2.1; omega
      · exact h.apart i i' x y r hne hx' hy' hxr hyr
  · have hs' : ∀ y ∈ G, y.key ≠ s := by
      intro y hy e
      have : s ∈ (G.set j (⟨g.key, .slice q' ((idx V g.key k).length + 1) c', g.born⟩ : Ent)).map (·.key) := by rw [hks]; exact List.mem_map.2 ⟨y, hy, e⟩
      obtain ⟨z, hz, hze⟩ := List.mem_map.1 this
      exact hs z hz hze
    rw [idx_other (fun e => hs' g hgm (he.symm.trans e))]
    exact h.gone s hs'
  · have hkp : Kp (fun r => g.val.ownBlock = some r ∨ r = b) w (put w4 b o) :=
      ⟨hgr.os, hgr.tape, hgr.output, by rw [put_size]; exact hgr.size, fun r hr hnr => by
        rw [hoth r (fun e => hnr (.inr e))]
        exact hgr.block r hr (fun e => hnr (.inl e.symm))⟩
    exact hkp.below hB (fun r hr => by
      rcases hr with hr | rfl
      · exact (h.row hgm hr).1
      · exact h.ge)
theorem Grp.fresh (h : Grp w B b k V G clock) (hn : ∀ g ∈ G, g.key ≠ sha (V.getD k [])) (hs : (sha (V.getD k [])).length = 32) (hB : B ≤ w.heap.size) {w1 : World} (hw1 : w1 = put w b (.map ((G ++ [(⟨sha (V.getD k []), .slice none 0 0, clock⟩ : Ent)]).map ent).toArray (clock + 1))) {w4 : World} {q' : Option Addr} {c' : Nat} (hgr : w1.grownBy w4 none)
    (how : Ow w4 B 3 1 (.slice q' 1 c') 1 [.int .i64 (k : Int)]) (hnew : ∀ r, (Value.slice q' 1 c').ownBlock = some r → w1.heap.size ≤ r) :
    MapIs w4 b (G ++ [⟨sha (V.getD k []), .slice none 0 0, clock⟩]) (clock + 1) ∧ Grp (put w4 b (.map ((G ++ [(⟨sha (V.getD k []), .slice q' 1 c', clock⟩ : Ent)]).map ent).toArray (clock + 1))) B b (k + 1) V (G ++ [⟨sha (V.getD k []), .slice q' 1 c', clock⟩]) (clock + 1) ∧
      Below B w (put w4 b (.map ((G ++ [(⟨sha (V.getD k []), .slice q' 1 c', clock⟩ : Ent)]).map ent).toArray (clock + 1))) := by
  obtain ⟨s, hsd⟩ : ∃ s, s = sha (V.getD k []) := ⟨_, rfl⟩
  rw [← hsd] at hn hs hw1 ⊢
  have hsz : w1.heap.size = w.heap.size := by rw [hw1]; exact put_size _ _ _
  have hm1 : w1.heap[b]? = some (.map ((G ++ [(⟨s, .slice none 0 0, clock⟩ : Ent)]).map ent).toArray (clock + 1)) := by rw [hw1]; exact put_at h.map
  have hm4 : MapIs w4 b (G ++ [⟨s, .slice none 0 0, clock⟩]) (clock + 1) := (hgr.block b (by rw [hsz]; exact h.lt) (fun e => by cases e)).trans hm1
  obtain ⟨o, ho⟩ : ∃ o, o = Obj.map ((G ++ [(⟨s, .slice q' 1 c', clock⟩ : Ent)]).map ent).toArray (clock + 1) := ⟨_, rfl⟩
  rw [← ho]
  have hoth : ∀ r, r < w.heap.size → r ≠ b → (put w4 b o).heap[r]? = w.heap[r]? := fun r hr hrb => by
    rw [put_other hrb, hgr.block r (by rw [hsz]; exact hr) (fun e => by cases e), hw1, put_other hrb]
  have hidx : idx V s k = [] := h.gone s hn
  have hrb : ∀ r, (Value.slice q' 1 c').ownBlock = some r → r ≠ b := fun r hr e => by have := hnew r hr; have := h.lt; omega
  have hcase : ∀ (i : Nat) (x : Ent), (G ++ [(⟨s, .slice q' 1 c', clock⟩ : Ent)])[i]? = some x → (i < G.length ∧ G[i]? = some x) ∨ (i = G.length ∧ x = ⟨s, .slice q' 1 c', clock⟩) := by
    intro i x hx
    by_cases hi : i < G.length
    · rw [List.getElem?_append_left hi] at hx; exact .inl ⟨hi, hx⟩
    · rw [List.getElem?_append_right (by omega)] at hx
      have := (List.getElem?_eq_some_iff.1 hx).1
      have e : i - G.length = 0 := by simp at this; omega
      rw [e] at hx
      cases hx
      exact .inr ⟨by omega, rfl⟩
  have hmem : ∀ x ∈ G ++ [(⟨s, .slice q' 1 c', clock⟩ : Ent)], x ∈ G ∨ x = ⟨s, .slice q' 1 c', clock⟩ := by
    intro x hx
    rw [List.mem_append, List.mem_singleton] at hx
    exact hx
  refine ⟨hm4, ⟨?_, ⟨fun x hx => ?_, ?_, ?_, fun x hx => ?_⟩, fun x hx => ?_, fun i i' x y r hne hx hy hxr hyr => ?_, fun t ht => ?_, h.ge⟩, ?_⟩
  · unfold MapIs; rw [put_at hm4, ho]
  · rcases hmem x hx with hx | rfl
    · exact h.ok.len x hx
    · exact hs
  · rw [List.map_append, List.nodup_append]
    refine ⟨h.ok.keys, by simp, fun a ha c hc e => ?_⟩
    obtain ⟨y, hy, rfl⟩ := List.mem_map.1 ha
    simp at hc
    exact hn y hy (e.trans hc)
  · rw [List.map_append, List.nodup_append]
    refine ⟨h.ok.stamps, by simp, fun a ha c hc e => ?_⟩
    obtain ⟨y, hy, rfl⟩ := List.mem_map.1 ha
    simp at hc
    have := h.ok.past y hy
    omega
  · rcases hmem x hx with hx | rfl
    · have := h.ok.past x hx; omega
    · exact Nat.lt_succ_self _
  · rcases hmem x hx with hx | rfl
    · obtain ⟨qx, cx, hv, hox⟩ := h.rows x hx
      have hkk : ¬ sha (V.getD k []) = x.key := fun e => hn x hx (e.symm.trans hsd.symm)
      refine ⟨qx, cx, by rw [hv, idx_other hkk], ?_⟩
      rw [idx_other hkk]
      refine hox.atM (fun r hr => ?_)
      have hr' : x.val.ownBlock = some r := by rw [hv]; exact hr
      have hrl := h.row hx hr'
      exact hoth r hrl.2.1 hrl.2.2
    · have e1 : idx V s (k + 1) = [k] := by rw [idx_same hsd.symm, hidx]; rfl
      refine ⟨q', c', by rw [e1]; rfl, ?_⟩
      show Ow _ _ _ _ (.slice q' (idx V s (k + 1)).length c') _ (ints (idx V s (k + 1)))
      rw [e1]
      exact how.atM (fun r hr => put_other (hrb r hr))
  · rcases hcase i x hx with ⟨hi, hx'⟩ | ⟨hi, rfl⟩
    · rcases hcase i' y hy with ⟨hi', hy'⟩ | ⟨hi', rfl⟩
      · exact h.apart i i' x y r hne hx' hy' hxr hyr
      · have := (h.row (List.mem_of_getElem? hx') hxr).2.1
        have := hnew r hyr
        omega
    · rcases hcase i' y hy with ⟨hi', hy'⟩ | ⟨hi', rfl⟩
      · have := (h.row (List.mem_of_getElem? hy') hyr).2.1
        have := hnew r hxr
        omega
      · omega
  · have h1 : ∀ g ∈ G, g.key ≠ t := fun g hg => ht g (List.mem_append_left _ hg)
    have h2 : s ≠ t := ht _ (List.mem_append_right _ (List.mem_singleton.2 rfl))
    rw [idx_other (fun e => h2 (hsd.trans e))]
    exact h.gone t h1
  · have hkp : Kp (fun r => r = b) w (put w4 b o) :=
      ⟨by rw [show (put w4 b o).os = w4.os from rfl, hgr.os, hw1]; rfl, by rw [show (put w4 b o).tape = w4.tape from rfl, hgr.tape, hw1]; rfl, by rw [show (put w4 b o).output = w4.output from rfl, hgr.output, hw1]; rfl, by rw [put_size, ← hsz]; exact hgr.size, fun r hr hnr => hoth r hr hnr⟩
    exact hkp.below hB (fun r hr => by rw [hr]; exact h.ge)
theorem Grp.look (h : Grp w B b k V G clock) {s : List UInt8} (hs : s.length = 32) : ∃ q c, (Instr.lookup 72 (.map (some b)) (.agg (bysA s)) false).run Tryz.prog w = .ok (.slice q (idx V s k).length c) w ∧ Rd w 1 (.slice q (idx V s k).length c) (idx V s k).length (ints (idx V s k)) := by
  by_cases hk : ∃ g ∈ G, g.key = s
  · obtain ⟨g, hg, rfl⟩ := hk
    obtain ⟨j, hj⟩ := List.mem_iff_getElem?.1 hg
    obtain ⟨q, c, hv, ho⟩ := h.rows g hg
    refine ⟨q, c, ?_, Rd.of_ow ho⟩
    rw [run_look_old h.map hs h.ok hj rfl, hv]
  · have hn : ∀ g ∈ G, g.key ≠ s := fun g hg e => hk ⟨g, hg, e⟩
    rw [h.gone s hn]
    exact ⟨none, 0, run_look_new h.map hs h.ok hn, Rd.nil _ _⟩
end
end Fnd
end Go.Proofs.YtmonkggoilhngaaGreatDoor
/- The walk of extract.Find. -/
namespace Go.Proofs.YtmonkggoilhngaaGreatDoor
open Go.RowKit Bits Mem Sha Mg
namespace Fnd
theorem partsF (w : World) (a : List UInt8) (x : Value) (hx : ∃ q c, x = .slice q a.length c ∧ Rd w 1 (.slice q a.length c) a.length (bys a)) :
    Parts (w.alloc (.cells #[x] 23)) (.slice (some ⟨w.heap.size, 0, none⟩) 1 1) [a] := by
  have hb : Below w.heap.size w (w.alloc (.cells #[x] 23)) := (Below.refl _ _).alloc (Nat.le_refl _) _
  refine ⟨[x], Rd_lit w #[x] 23 1 1 rfl (by decide), fun i hi => ?_⟩
  have : i = 0 := by simp at hi; omega
  subst this
  obtain ⟨q, c, e, hr⟩ := hx
  exact ⟨q, c, by rw [e]; rfl, hr.below hb⟩
theorem infoInt : (Tryz.prog.info? 3).map (fun i => (i.zero, i.size, i.bytes)) = some (some (.int .i64 0), 1, 8) := by kernel_rfl
theorem infoSum (s : List UInt8) (h : s.length = 32) : (Tryz.prog.info? 22).map (·.size) = some (bysA s).size := by
  rw [bysA_size, h]
  kernel_rfl
theorem load_wholeF {w : World} {g : Nat} {l : List UInt8} {t : TypeId} {f : Nat × Nat} (h : w.heap[g]? = some (.cells (bysA l) t f)) (hl : l.length = 32) : (Instr.loadAt 22 (.pointer (some ⟨g, 0, none⟩))).run Tryz.prog w = .ok (.agg (bysA l)) w := by
  refine run_loadAt_mid w g 0 _ (bys l) _ (fun j v hv => ?_) Tryz.underlying22 rfl (by rw [infoSum l hl, bysA_size, bys_length])
  rw [cell_of_row w g _ _ _ _ h, Nat.zero_add, ← hv]
  simp [bysA]
def pick (V : List (List UInt8)) (t : List UInt8) : Option Nat := (idx V (sha t) V.length).find? fun k => V.getD k [] != t
def findP (V : List (List UInt8)) : List (List UInt8) → List UInt8 × List UInt8 × Bool
  | [] => ([], [], false)
  | t :: U => match pick V t with
    | some k => (t, V.getD k [], true)
    | none => findP V U
theorem firstBad_pick (V : List (List UInt8)) (t : List UInt8) : (pick V t = none ∧ firstBad V t (idx V (sha t) V.length) = -1) ∨ ∃ p k : Nat, pick V t = some k ∧ firstBad V t (idx V (sha t) V.length) = p ∧ (idx V (sha t) V.length)[p]? = some k := by
  obtain ⟨I, hI⟩ : ∃ I, I = idx V (sha t) V.length := ⟨_, rfl⟩
  unfold pick firstBad
  rw [← hI]
  clear hI
  cases hf : I.findIdx? (fun k => V.getD k [] != t) with
  | none =>
    left
    refine ⟨?_, rfl⟩
    rw [List.findIdx?_eq_none_iff] at hf
    rw [List.find?_eq_none]
    intro x hx
    rw [hf x hx]
    decide
  | some p =>
    right
    rw [List.findIdx?_eq_some_iff_getElem] at hf
    obtain ⟨hp, h1, h2⟩ := hf
    refine ⟨p, I[p], ?_, rfl, List.getElem?_eq_getElem hp⟩
    rw [List.find?_eq_some_iff_getElem]
    refine ⟨h1, p, hp, rfl, fun j hj => ?_⟩
    have := h2 j hj
    simpa using this
set_option maxRecDepth 100000 in
set_option maxHeartbeats 4000000 in
theorem efind_any (qa : Option Addr) (ca : Nat) (U : List (List UInt8)) (qb : Option Addr) (cb : Nat) (V : List (List UInt8)) (w : World) (hS : Sha.Tabs w) (hp : Parts w (.slice qa U.length ca) U) (hq : Parts w (.slice qb V.length cb) V)
    (hul : U.length ≤ 1000) (hvl : V.length ≤ 1000) (hu : ∀ t ∈ U, t.length ≤ 1100000) (hv : ∀ t ∈ V, t.length ≤ 1100000) :
    Calls Tryz.prog 9 #[.slice qa U.length ca, .slice qb V.length cb] w fun e w' => ∃ qx cx qy cy, e = .returned (.tuple #[.slice qx (findP V U).1.length cx, .slice qy (findP V U).2.1.length cy, .bool (findP V U).2.2]) ∧
      Ow w' w.heap.size 5 1 (.slice qx (findP V U).1.length cx) (findP V U).1.length (bys (findP V U).1) ∧ Ow w' w.heap.size 5 1 (.slice qy (findP V U).2.1.length cy) (findP V U).2.1.length (bys (findP V U).2.1) ∧ Below w.heap.size w w' := by
  obtain ⟨i0, hi0, hz0, hz1, hz2⟩ := parts3M infoInt
  have HS := Lib.hid hS
  have HA := Lib.hid hp
  have HBQ := Lib.hid hq
  have HU := Lib.hid hu
  have HVL := Lib.hid hv
  obtain ⟨w1, hw1⟩ : ∃ w1, w1 = w.alloc (.cells #[.slice qb V.length cb] 56) := ⟨_, rfl⟩
  obtain ⟨pb, hpb⟩ : ∃ pb, pb = w.heap.size := ⟨_, rfl⟩
  obtain ⟨B, hB⟩ : ∃ B, B = w1.heap.size := ⟨_, rfl⟩
  have hs1 : w1.heap.size = pb + 1 := by rw [hw1, hpb]; exact Array.size_push _
  have hb1 : Below w.heap.size w w1 := by rw [hw1]; exact (Below.refl _ _).alloc (Nat.le_refl _) _
  obtain ⟨w2, hw2⟩ : ∃ w2, w2 = w1.alloc (.map #[] 0) := ⟨_, rfl⟩
  have hb2 : Below w1.heap.size w1 w2 := by rw [hw2]; exact (Below.refl _ _).alloc (Nat.le_refl _) _
  have HPB : Hid (w1.heap[pb]? = some (.cells #[.slice qb V.length cb] 56 (0, 0))) := Lib.hid (by rw [hw1, hpb]; exact heap_alloc_new w _)
  have HG0 : Hid (Grp w2 B B 0 V [] 0) := Lib.hid (Grp.new V (by rw [hw2, hB]; exact heap_alloc_new w1 _) (Nat.le_refl _))
  have HW1 := Lib.hid hw1
  have HW2 := Lib.hid hw2
  have HB1 := Lib.hid hb1
  have HBD := Lib.hid hB
  have HB1S : Hid (w.heap.size ≤ B) := Lib.hid (by rw [hB]; exact hb1.size)
  have HPD := Lib.hid hpb
  have HB2 : Hid (Below B w1 w2) := Lib.hid (by rw [hB]; exact hb2)
  have hmm := @run_makeMap Tryz.prog
  have e0 : w2.cell? ⟨pb, 0, none⟩ = some (.slice qb V.length cb) := (cell_of_row _ _ _ _ _ _ ((hb2.block pb (by omega)).trans HPB.out)).trans rfl
  have hpl : pb < B := by omega
  have HBZ : Hid (w.heap.size + 1 = B) := Lib.hid (by omega)
  clear hS hp hq hu hv hw1 hpb hB hs1 hb1 hw2 hb2
  go_enter Tryz.func9, Tryz.ntmps9
  go_wp2_with fail
  rw [← HW1.out, ← HW2.out, HBZ.out, ← HPD.out]
  go_loopw [18] (fun iv wr => ∃ (k : Nat) (G : List Ent) (clock : Nat), k ≤ V.length ∧ iv = .int .i64 k ∧ Hid (Grp wr B B k V G clock) ∧ Hid (Below B w1 wr)) (fun iv _ => V.length - (intOf iv).toNat)
  case atStart => exact ⟨0, [], 0, Nat.zero_le _, rfl, HG0, HB2⟩
  case round =>
    clear e0 HG0 HB2 HW2
    obtain ⟨k, G, clock, hk, rfl, HGR, HBR⟩ := hrel
    have hbw : Below w.heap.size w wr := HB1.out.trans (HBR.out.mono (by rw [HBD.out]; exact HB1.out.size))
    have HBW := Lib.hid hbw
    by_cases hlt : k < V.length
    · have hltI : (k : Int) < (V.length : Int) := by omega
      obtain ⟨b0, o0, qk, ck, rfl, hb0, hcell, hrd⟩ := part_at (HBQ.out.below hbw) hlt
      have htl := HVL.out (V.getD k []) (by rw [List.getD_eq_getElem?_getD, List.getElem?_eq_getElem hlt]; exact List.getElem_mem hlt)
      obtain ⟨t, ht⟩ : ∃ t, t = V.getD k [] := ⟨_, rfl⟩
      rw [← ht] at hcell hrd htl
      have HRD := Lib.hid hrd
      have HT := Lib.hid ht
      clear hrd ht hbw
      have hsz : (t).length ≤ 70368744177664 := by omega
      obtain ⟨wp, hwp⟩ : ∃ wp, wp = wr.alloc (.cells #[.slice qk (t).length ck] 23) := ⟨_, rfl⟩
      have hbp : Below wr.heap.size wr wp := by rw [hwp]; exact (Below.refl _ _).alloc (Nat.le_refl _) _
      have HSUM : Hid (Calls Tryz.prog 19 #[.slice (some ⟨wr.heap.size, 0, none⟩) 1 1] wp fun e w' => e = .returned (.agg (bysA (sha (t)))) ∧ Below wp.heap.size wp w') := Lib.hid (by
        have := parts_any (some ⟨wr.heap.size, 0, none⟩) 1 [t] wp (HS.out.below (HBW.out.trans (hbp.mono HBW.out.size))) (by rw [hwp]; exact partsF wr (t) _ ⟨_, _, rfl, HRD.out⟩) (by simpa using hsz)
        simpa using this)
      have HWP := Lib.hid hwp
      have HBP := Lib.hid hbp
      clear hwp hbp hsz
      obtain ⟨s, hs⟩ : ∃ s, s = sha t := ⟨_, rfl⟩
      rw [← hs] at HSUM
      have HSD := Lib.hid hs
      have hsl : s.length = 32 := by rw [hs]; exact sha_length _
      clear hs
      go_wp2_with fail
      rw [← HWP.out]
      refine HSUM.out.mono ?_
      rintro e ws ⟨rfl, hbs⟩
      have hbrs : Below wr.heap.size wr ws := HBP.out.trans (hbs.mono HBP.out.size)
      obtain ⟨wt, hwt⟩ : ∃ wt, wt = ws.alloc (.cells (bysA s) 22) := ⟨_, rfl⟩
      have hbrt : Below wr.heap.size wr wt := by rw [hwt]; exact hbrs.alloc hbrs.size _
      have HLD : Hid ((Instr.loadAt 22 (.pointer (some ⟨ws.heap.size, 0, none⟩))).run Tryz.prog wt = .ok (.agg (bysA s)) wt) := Lib.hid (load_wholeF (by rw [hwt]; exact heap_alloc_new ws _) hsl)
      have HWT := Lib.hid hwt
      have HBRS := Lib.hid hbrs
      have HBRT := Lib.hid hbrt
      have HIS : Hid ((Tryz.prog.info? 22).map (·.size) = some (bysA s).size) := Lib.hid (infoSum s hsl)
      have HSL := Lib.hid hsl
      clear hbs hbrs hwt hbrt HSUM HBP HWP hsl
      obtain ⟨wl, hwl⟩ : ∃ wl, wl = wt.alloc (.cells #[.int .i64 (k : Int)] 3) := ⟨_, rfl⟩
      have hbtl : Below wt.heap.size wt wl := by rw [hwl]; exact (Below.refl _ _).alloc (Nat.le_refl _) _
      have hbrl : Below wr.heap.size wr wl := HBRT.out.trans (hbtl.mono HBRT.out.size)
      have HGL := Lib.hid (HGR.out.below hbrl)
      have hBl : B ≤ wl.heap.size := Nat.le_of_lt HGL.out.lt
      have hBt : B ≤ wt.heap.size := Nat.le_trans (Nat.le_of_lt HGR.out.lt) HBRT.out.size
      have HLO : Hid (Ow wl B 3 1 (.slice (some ⟨wt.heap.size, 0, none⟩) 1 1) 1 [.int .i64 (k : Int)]) := Lib.hid (by rw [hwl]; exact Ow.lit wt #[.int .i64 (k : Int)] 3 1 1 B hBt (by decide) rfl)
      have HBL : Hid (Below B w1 wl) := Lib.hid (HBR.out.trans (hbrl.mono (Nat.le_of_lt HGR.out.lt)))
      have HWL := Lib.hid hwl
      have hkk : sha (V.getD k []) = s := by rw [← HT.out]; exact HSD.out.symm
      have HKK := Lib.hid hkk
      clear hwl hbtl hbrl hkk
      by_cases hex : ∃ g ∈ G, g.key = s
      · obtain ⟨g, hg, hgk⟩ := hex
        obtain ⟨j, hj⟩ := List.mem_iff_getElem?.1 hg
        obtain ⟨qg, cg, hgv, hgo⟩ := HGL.out.rows g hg
        obtain ⟨gk, gv, gb⟩ := g
        obtain rfl : gk = s := hgk
        have hgv2 : gv = Value.slice qg (idx V gk k).length cg := hgv
        clear hgv
        subst hgv2
        have HEN := Lib.hid (run_entry_old HGL.out.map HSL.out HGL.out.ok hj rfl)
        have HJ := Lib.hid hj
        have hnl := idx_len V gk k
        obtain ⟨n, hn⟩ : ∃ n, n = (idx V gk k).length := ⟨_, rfl⟩
        obtain ⟨X, hX⟩ : ∃ X, X = ints (idx V gk k) := ⟨_, rfl⟩
        replace hgo : Ow wl B 3 1 (.slice qg (idx V gk k).length cg) (idx V gk k).length (ints (idx V gk k)) := hgo
        rw [← hn, ← hX] at hgo
        rw [← hn] at hnl HEN
        have HGO := Lib.hid hgo
        have HN := Lib.hid hn
        have HX := Lib.hid hX
        clear hg hj hgo hn hX
        go_wp2_with (first | (refine Rg.store_row_new rfl 22 _ _ rfl ws.heap.size rfl rfl 22 _ (bysA gk) rfl HIS.out (by rw [bysA_size, HSL.out]; rfl) (bysA_one _) ?_) | (rw [← HWT.out]; refine l_load rfl _ _ rfl _ HLD.out ?_) | (rw [← HWL.out]; refine l_entry rfl 72 _ _ rfl _ _ _ rfl rfl HEN.out ?_) | (at_builtin; go_must (refine app_ow3 rfl _ _ 73 73 rfl B 3 i0 (.int .i64 0) 1 8 Tryz.underlying73 hi0 hz0 hz1 hz2 (by rfl) _ n _ rfl HGO.out 1 _ rfl (Rd.src Tryz.underlying73 (Rd.of_ow HLO.out) (ints_one [k])) (by unfold maxLen; omega) (by omega) hBl ?_); go_must (intro v4 w4 how4 hg4 hn4); go_must (obtain ⟨q4, c4, rfl⟩ := Ow_form how4); go_must (refine Hid.out ?_)))
        refine Lib.hid ?_
        obtain ⟨hm4, hG4, hb4⟩ := HGL.out.old (w4 := w4) (q' := q4) (c' := c4) HJ.out HKK.out (by show wl.grownBy w4 (Value.slice qg (idx V gk k).length cg).ownBlock; rw [← HN.out]; exact hg4) (by show Ow w4 B _ 1 (.slice q4 ((idx V gk k).length + 1) c4) ((idx V gk k).length + 1) (ints (idx V gk k) ++ _); rw [← HN.out, ← HX.out]; exact how4) (by intro r hr; refine (hn4 r (by rw [HN.out]; exact hr)).imp (fun e => ?_) id; show (Value.slice qg (idx V gk k).length cg).ownBlock = some r; rw [← HN.out]; exact e) hBl
        rw [← HN.out] at hG4 hb4
        have HES := Lib.hid (run_estore hm4 HGL.out.ok.stamps HJ.out (.slice q4 (n + 1) c4))
        obtain ⟨w5, hw5⟩ : ∃ w5, w5 = put w4 B (.map ((G.set j (⟨gk, .slice q4 (n + 1) c4, gb⟩ : Ent)).map ent).toArray clock) := ⟨_, rfl⟩
        have hG4' : Grp w5 B B (k + 1) V (G.set j ⟨gk, .slice q4 (n + 1) c4, gb⟩) clock := by rw [hw5]; exact hG4
        have HG5 := Lib.hid hG4'
        have hb5 : Below B wl w5 := by rw [hw5]; exact hb4
        have HB5 := Lib.hid (HBL.out.trans hb5)
        rw [← hw5] at HES
        clear how4 hg4 hn4 hm4 hG4 hb4 hG4' hb5 hw5
        go_wp2_with (refine l_estore rfl 72 _ _ _ rfl _ _ _ rfl rfl rfl HES.out ?_)
        exact ⟨⟨k + 1, _, clock, by omega, by go_num, HG5, HB5⟩, by simp [intOf]; omega⟩
      · have hnk : ∀ g ∈ G, g.key ≠ sha (V.getD k []) := fun g hg e => hex ⟨g, hg, e.trans HKK.out⟩
        have HEN := Lib.hid (run_entry_new HGL.out.map HSL.out HGL.out.ok (fun g hg e => hex ⟨g, hg, e⟩))
        obtain ⟨wm, hwm⟩ : ∃ wm, wm = put wl B (.map ((G ++ [(⟨s, .slice none 0 0, clock⟩ : Ent)]).map ent).toArray (clock + 1)) := ⟨_, rfl⟩
        rw [← hwm] at HEN
        have hlitb : wt.heap.size ≠ B := fun e => by have := HGR.out.lt; have := HBRT.out.size; omega
        have hsm : wm.heap.size = wl.heap.size := by rw [hwm]; exact put_size _ _ _
        have HLM : Hid (Ow wm B 3 1 (.slice (some ⟨wt.heap.size, 0, none⟩) 1 1) 1 [.int .i64 (k : Int)]) := Lib.hid (HLO.out.atM (fun r hr => by cases hr; rw [hwm]; exact put_other hlitb))
        have HNK := Lib.hid hnk
        have HWM := Lib.hid hwm
        have HSM := Lib.hid hsm
        have hBm : B ≤ wm.heap.size := by omega
        clear hex hnk hwm hlitb hsm
        go_wp2_with (first | (refine Rg.store_row_new rfl 22 _ _ rfl ws.heap.size rfl rfl 22 _ (bysA s) rfl HIS.out (by rw [bysA_size, HSL.out]; rfl) (bysA_one _) ?_) | (rw [← HWT.out]; refine l_load rfl _ _ rfl _ HLD.out ?_) | (rw [← HWL.out]; refine l_entry rfl 72 _ _ rfl _ _ _ rfl rfl HEN.out ?_) | (at_builtin; go_must (refine app_ow3 rfl _ _ 73 73 rfl B 3 i0 (.int .i64 0) 1 8 Tryz.underlying73 hi0 hz0 hz1 hz2 (by rfl) _ 0 _ rfl (Ow.nil _ _ _ _) 1 _ rfl (Rd.src Tryz.underlying73 (Rd.of_ow HLM.out) (ints_one [k])) (by unfold maxLen; omega) (by omega) hBm ?_); go_must (intro v4 w4 how4 hg4 hn4); go_must (obtain ⟨q4, c4, rfl⟩ := Ow_form how4); go_must (refine Hid.out ?_)))
        refine Lib.hid ?_
        obtain ⟨hm4, hG4, hb4⟩ := HGL.out.fresh (w4 := w4) (q' := q4) (c' := c4) (w1 := wm) HNK.out (by rw [HKK.out]; exact HSL.out) hBl (by rw [HKK.out]; exact HWM.out) hg4 how4 (fun r hr => (hn4 r hr).resolve_left (fun e => by cases e))
        rw [HKK.out] at hm4 hG4 hb4
        have hlast : (G ++ [(⟨s, .slice none 0 0, clock⟩ : Ent)])[G.length]? = some ⟨s, .slice none 0 0, clock⟩ := by simp
        have hes := run_estore hm4 (by have := hG4.ok.stamps; simpa using this) hlast (.slice q4 1 c4)
        have hset : (G ++ [(⟨s, .slice none 0 0, clock⟩ : Ent)]).set G.length ⟨s, .slice q4 1 c4, clock⟩ = G ++ [⟨s, .slice q4 1 c4, clock⟩] := by simp
        obtain ⟨w5, hw5⟩ : ∃ w5, w5 = put w4 B (.map ((G ++ [(⟨s, .slice q4 1 c4, clock⟩ : Ent)]).map ent).toArray (clock + 1)) := ⟨_, rfl⟩
        dsimp only at hes
        rw [hset, ← hw5] at hes
        rw [← hw5] at hG4 hb4
        have HES := Lib.hid hes
        have HG5 := Lib.hid hG4
        have HB5 := Lib.hid (HBL.out.trans hb4)
        clear how4 hg4 hn4 hm4 hG4 hb4 hlast hes hset hw5
        go_wp2_with (refine l_estore rfl 72 _ _ _ rfl _ _ _ rfl rfl rfl HES.out ?_)
        exact ⟨⟨k + 1, _, clock + 1, by omega, by go_num, HG5, HB5⟩, by simp [intOf]; omega⟩
    · have hltI : ¬ (k : Int) < (V.length : Int) := by omega
      obtain rfl : k = V.length := by omega
      clear hk hltI HBW hbw HPD HBD
      go_wp2_with fail
      go_loopw [37] (fun iv wr => ∃ i : Nat, i ≤ U.length ∧ iv = .int .i64 i ∧ Hid (Grp wr B B V.length V G clock) ∧ Hid (Below B w1 wr) ∧ Hid (findP V (U.drop i) = findP V U)) (fun iv _ => U.length - (intOf iv).toNat)
      case atStart => exact ⟨0, Nat.zero_le _, rfl, HGR, HBR, Lib.hid (by rw [List.drop_zero])⟩
      case round =>
        clear HGR HBR
        obtain ⟨i, hi, rfl, HGR, HBR, HF⟩ := hrel
        have hbw : Below w.heap.size w wr := HB1.out.trans (HBR.out.mono HB1S.out)
        by_cases hlt : i < U.length
        · have hltI : (i : Int) < (U.length : Int) := by omega
          obtain ⟨b0, o0, qk, ck, rfl, hb0, hcell, hrd⟩ := part_at (HA.out.below hbw) hlt
          have htl := HU.out (U.getD i []) (by rw [List.getD_eq_getElem?_getD, List.getElem?_eq_getElem hlt]; exact List.getElem_mem hlt)
          have hdr : U.drop i = U.getD i [] :: U.drop (i + 1) := by
            rw [List.drop_eq_getElem_cons hlt, List.getD_eq_getElem?_getD, List.getElem?_eq_getElem hlt]; rfl
          obtain ⟨t, ht⟩ : ∃ t, t = U.getD i [] := ⟨_, rfl⟩
          rw [← ht] at hcell hrd htl hdr
          rw [hdr] at HF
          obtain ⟨wv, hwv⟩ : ∃ wv, wv = wr.alloc (.cells #[.slice qk t.length ck] 23) := ⟨_, rfl⟩
          obtain ⟨pt, hpt⟩ : ∃ pt, pt = wr.heap.size := ⟨_, rfl⟩
          have hbv : Below wr.heap.size wr wv := by rw [hwv]; exact (Below.refl _ _).alloc (Nat.le_refl _) _
          have hptv : wv.heap[pt]? = some (.cells #[.slice qk t.length ck] 23 (0, 0)) := by rw [hwv, hpt]; exact heap_alloc_new wr _
          have e1 : wv.cell? ⟨pt, 0, none⟩ = some (.slice qk t.length ck) := (cell_of_row _ _ _ _ _ _ hptv).trans rfl
          have hptl : pt < wv.heap.size := (Array.getElem?_eq_some_iff.1 hptv).1
          have HRD := Lib.hid (hrd.below hbv)
          have HWV := Lib.hid hwv
          have HPT := Lib.hid hpt
          have HGV := Lib.hid (HGR.out.below hbv)
          have HBV := Lib.hid (HBR.out.trans (hbv.mono (Nat.le_of_lt HGR.out.lt)))
          have HBWV := Lib.hid (hbw.trans (hbv.mono hbw.size))
          have HPTV := Lib.hid hptv
          clear ht hrd hdr hwv hpt hbv hptv hbw
          have hsz : (t).length ≤ 70368744177664 := by omega
          obtain ⟨wp, hwp⟩ : ∃ wp, wp = wv.alloc (.cells #[.slice qk (t).length ck] 23) := ⟨_, rfl⟩
          have hbp : Below wv.heap.size wv wp := by rw [hwp]; exact (Below.refl _ _).alloc (Nat.le_refl _) _
          have HSUM : Hid (Calls Tryz.prog 19 #[.slice (some ⟨wv.heap.size, 0, none⟩) 1 1] wp fun e w' => e = .returned (.agg (bysA (sha (t)))) ∧ Below wp.heap.size wp w') := Lib.hid (by
            have := parts_any (some ⟨wv.heap.size, 0, none⟩) 1 [t] wp (HS.out.below (HBWV.out.trans (hbp.mono HBWV.out.size))) (by rw [hwp]; exact partsF wv (t) _ ⟨_, _, rfl, HRD.out⟩) (by simpa using hsz)
            simpa using this)
          have HWP := Lib.hid hwp
          have HBP := Lib.hid hbp
          clear hwp hbp hsz
          have hsv : wv.heap.size = pt + 1 := by rw [HWV.out, HPT.out]; exact Array.size_push _
          rw [hsv] at HSUM
          have hq2 := HBP.out
          have HBP2 := Lib.hid hq2
          clear hsv hq2 HBP
          go_wp2_with fail
          rw [← HWV.out, ← HPT.out]
          first | rw [← HWP.out] | skip
          refine HSUM.out.mono ?_
          rintro e wq ⟨rfl, hbs⟩
          have hbq : Below wv.heap.size wv wq := HBP2.out.trans (hbs.mono HBP2.out.size)
          have HGQ := Lib.hid (HGV.out.below hbq)
          have HBQ1 := Lib.hid (HBV.out.trans (hbq.mono (Nat.le_of_lt HGV.out.lt)))
          have HBWQ := Lib.hid (HBWV.out.trans (hbq.mono HBWV.out.size))
          have hptq : wq.heap[pt]? = some (.cells #[.slice qk t.length ck] 23 (0, 0)) := (hbq.block pt hptl).trans HPTV.out
          have e2 : wq.cell? ⟨pt, 0, none⟩ = some (.slice qk t.length ck) := (cell_of_row _ _ _ _ _ _ hptq).trans rfl
          have hpbq : wq.heap[pb]? = some (.cells #[.slice qb V.length cb] 56 (0, 0)) := (HBQ1.out.block pb hpl).trans HPB.out
          have e3 : wq.cell? ⟨pb, 0, none⟩ = some (.slice qb V.length cb) := (cell_of_row _ _ _ _ _ _ hpbq).trans rfl
          have hptl2 : pt < wq.heap.size := Nat.lt_of_lt_of_le hptl hbq.size
          have hpbl2 : pb < wq.heap.size := (Array.getElem?_eq_some_iff.1 hpbq).1
          have HRQ := Lib.hid (HRD.out.below hbq)
          have HVQ := Lib.hid (HBQ.out.below HBWQ.out)
          obtain ⟨ql, cl, hrun, hrdl⟩ := HGQ.out.look (s := sha t) (sha_length _)
          have hfb := firstBad_pick V t
          have hil : ∀ j ∈ idx V (sha t) V.length, j < V.length := fun j hj => idx_lt hj
          have hnl := idx_len V (sha t) V.length
          obtain ⟨I, hI⟩ : ∃ I, I = idx V (sha t) V.length := ⟨_, rfl⟩
          rw [← hI] at hrun hrdl hfb hil hnl
          have HLK := Lib.hid hrun
          have HRL := Lib.hid hrdl
          have HIL := Lib.hid hil
          have HFB := Lib.hid hfb
          have HIX := Lib.hid (indexfn_any ql cl I qb cb V pb pt qk ck t wq hrdl hil (by omega) HVQ.out e3 e2 hpbl2 hptl2 HRQ.out)
          obtain ⟨fb, hfbd⟩ : ∃ fb, fb = firstBad V t I := ⟨_, rfl⟩
          rw [← hfbd] at HIX HFB
          have HFD := Lib.hid hfbd
          clear hbs hbq hptq hpbq hrun hrdl hfb hil hI hfbd HSUM
          go_wp2_with (refine l_look rfl 72 _ _ rfl _ _ _ rfl rfl HLK.out ?_)
          refine HIX.out.mono ?_
          rintro e wi ⟨rfl, hbi⟩
          have HGI := Lib.hid (HGQ.out.below hbi)
          have HBI := Lib.hid (HBQ1.out.trans (hbi.mono (Nat.le_of_lt HGQ.out.lt)))
          have HBWI := Lib.hid (HBWQ.out.trans (hbi.mono HBWQ.out.size))
          rcases HFB.out with ⟨hpk, hfbn⟩ | ⟨p0, k, hpk, hfbp, hIp⟩
          · have hneg : ¬ (0 : Int) ≤ fb := by omega
            have HF2 : Hid (findP V (U.drop (i + 1)) = findP V U) := Lib.hid (by rw [← HF.out]; show _ = (match pick V t with | some k => (t, V.getD k [], true) | none => findP V (U.drop (i + 1))); rw [hpk])
            clear hpk hfbn hbi
            go_wp2_with fail
            exact ⟨⟨i + 1, by omega, by go_num, HGI, HBI, HF2⟩, by simp [intOf]; omega⟩
          · have HF2 : Hid (findP V U = (t, V.getD k [], true)) := Lib.hid (by rw [← HF.out]; show (match pick V t with | some k => (t, V.getD k [], true) | none => findP V (U.drop (i + 1))) = _; rw [hpk])
            have hkl := HIL.out k (List.mem_of_getElem? hIp)
            have hpl0 := (List.getElem?_eq_some_iff.1 hIp).1
            obtain ⟨bI, oI, rfl, hbI, _, _, hcI⟩ := Rd_lt (HRL.out.below hbi) (by omega)
            have d1 := hcI p0 (.int .i64 k) (by unfold ints; rw [List.getElem?_map, hIp]; rfl)
            obtain ⟨b2, o2, qx, cx, rfl, hb2, d2, hrx⟩ := part_at (HVQ.out.below hbi) hkl
            have hxl := HVL.out (V.getD k []) (by rw [List.getD_eq_getElem?_getD, List.getElem?_eq_getElem hkl]; exact List.getElem_mem hkl)
            obtain ⟨x, hx⟩ : ∃ x, x = V.getD k [] := ⟨_, rfl⟩
            rw [← hx] at HF2 hrx d2 hxl
            have HRX := Lib.hid hrx
            have HRT := Lib.hid (HRQ.out.below hbi)
            have d3 : wi.cell? ⟨pt, 0, none⟩ = some (.slice qk t.length ck) := (Below.cell hbi hptl2).trans e2
            have d4 : wi.cell? ⟨pb, 0, none⟩ = some (.slice (some ⟨b2, o2, none⟩) V.length cb) := (Below.cell hbi hpbl2).trans e3
            have hpti : pt < wi.heap.size := Nat.lt_of_lt_of_le hptl2 hbi.size
            have hpbi : pb < wi.heap.size := Nat.lt_of_lt_of_le hpbl2 hbi.size
            obtain rfl : fb = (p0 : Int) := hfbp
            have hp0I : (p0 : Int) < (I.length : Int) := by omega
            have hkI : (k : Int) < (V.length : Int) := by omega
            clear hpk hIp hcI hrx hx hbi e2 e3 e1
            go_wp2_with fail
            refine Rc.region (wi.heap.size) 13 [Rc.F 1 (fun p => .slice p.q t.length p.c) (fun p _ y => Ow y wi.heap.size 5 1 (.slice p.q t.length p.c) t.length (bys t)), Rc.F 9 (fun p => .slice p.q x.length p.c) (fun p _ y => Ow y wi.heap.size 5 1 (.slice p.q x.length p.c) x.length (bys x))] [1, 9] (by kernel_rfl) (Nat.le_refl _) (by kernel_rfl) ?_; intro p; simp only [List.take, List.drop]
            iterate 1 (refine Rc.rK rfl rfl ?_; intro K hK; apply Exists.intro; refine ⟨?_, ?_⟩; (focus (intro x hx; have f1 := Rc.cell_le hx hpti d3; go_simp; (first | (fail) | ((try go_bits); (try go_simp); (try rfl))))); go_simp; refine hK _ ?_; clear hK K)
            refine Rc.fK rfl rfl rfl rfl ?_ ?_
            · intro y Fs hy hle hg K hK
              have hck := Ten.clone_any _ _ (t) y (HRT.out.below (Rc.undrew hy)) (by omega)
              clear hy hg
              go_wp2_with fail
              refine hck.mono ?_
              rintro e z ⟨q', c', rfl, how, hb⟩
              go_wp2_with fail
              exact hK ⟨q', c', undef⟩ z hb (fun F u hF hu => (OwF.fresh how hle hF hu).1)
            intro K hK; go_simp; refine hK _ ?_; clear hK K
            iterate 1 (refine Rc.rK rfl rfl ?_; intro K hK; apply Exists.intro; refine ⟨?_, ?_⟩; (focus (intro x hx; have f1 := Rc.cell_le hx hpbi d4; go_simp; (first | (fail) | ((try go_bits); (try go_simp); (try rfl))))); go_simp; refine hK _ ?_; clear hK K)
            iterate 3 (refine Rc.rK rfl rfl ?_; intro K hK; apply Exists.intro; refine ⟨?_, ?_⟩; (focus (intro x hx;  go_simp; (first | (fail) | ((try go_bits); (try go_simp); (try rfl))))); go_simp; refine hK _ ?_; clear hK K)
            iterate 1 (refine Rc.rK rfl rfl ?_; intro K hK; apply Exists.intro; refine ⟨?_, ?_⟩; (focus (intro x hx; have f1 := Rc.cell_le hx hbI d1; go_simp; (first | (fail) | ((try go_bits); (try go_simp); (try rfl))))); go_simp; refine hK _ ?_; clear hK K)
            iterate 1 (refine Rc.rK rfl rfl ?_; intro K hK; apply Exists.intro; refine ⟨?_, ?_⟩; (focus (intro x hx;  go_simp; (first | (fail) | ((try go_bits); (try go_simp); (try rfl))))); go_simp; refine hK _ ?_; clear hK K)
            iterate 1 (refine Rc.rK rfl rfl ?_; intro K hK; apply Exists.intro; refine ⟨?_, ?_⟩; (focus (intro x hx; have f1 := Rc.cell_le hx hb2 d2; go_simp; (first | (fail) | ((try go_bits); (try go_simp); (try rfl))))); go_simp; refine hK _ ?_; clear hK K)
            refine Rc.fK rfl rfl rfl rfl ?_ ?_
            · intro y Fs hy hle hg K hK
              have hck := Ten.clone_any _ _ (x) y (HRX.out.below (Rc.undrew hy)) (by omega)
              clear hy hg
              go_wp2_with fail
              refine hck.mono ?_
              rintro e z ⟨q', c', rfl, how, hb⟩
              go_wp2_with fail
              exact hK ⟨q', c', undef⟩ z hb (fun F u hF hu => (OwF.fresh how hle hF hu).1)
            intro K hK; go_simp; refine hK _ ?_; clear hK K
            iterate 3 (refine Rc.rK rfl rfl ?_; intro K hK; apply Exists.intro; refine ⟨?_, ?_⟩; (focus (intro x hx;  go_simp; (first | (fail) | ((try go_bits); (try go_simp); (try rfl))))); go_simp; refine hK _ ?_; clear hK K)
            refine Rc.done fun wz Fs hx hle hg => ?_
            obtain ⟨q1, hq1⟩ : ∃ q1, q1 = (p 1).q := ⟨_, rfl⟩
            obtain ⟨c1, hc1⟩ : ∃ c1, c1 = (p 1).c := ⟨_, rfl⟩
            obtain ⟨q2, hq2⟩ : ∃ q2, q2 = (p 9).q := ⟨_, rfl⟩
            obtain ⟨c2, hc2⟩ : ∃ c2, c2 = (p 9).c := ⟨_, rfl⟩
            have ho1 : Ow wz wi.heap.size 5 1 (.slice (p 1).q t.length (p 1).c) t.length (bys t) := hg.1
            have ho2 : Ow wz wi.heap.size 5 1 (.slice (p 9).q x.length (p 9).c) x.length (bys x) := hg.2.1
            rw [← hq1, ← hc1] at ho1 ⊢
            rw [← hq2, ← hc2] at ho2 ⊢
            have HO1 := Lib.hid (ho1.base_le HBWI.out.size)
            have HO2 := Lib.hid (ho2.base_le HBWI.out.size)
            have HBZ2 := Lib.hid (HBWI.out.trans ((Rc.undrew hx).mono HBWI.out.size))
            clear hx hle hg ho1 ho2 hq1 hc1 hq2 hc2
            go_wp2_with fail
            refine NoPanic.normal ?_
            go_wp2_with fail
            go_ret3
            exact ⟨q1, c1, q2, c2, by rw [HF2.out]; rfl, by rw [HF2.out]; exact HO1.out, by rw [HF2.out]; exact HO2.out, HBZ2.out⟩
        · have hltI : ¬ (i : Int) < (U.length : Int) := by omega
          obtain rfl : i = U.length := by omega
          have HE : Hid (findP V U = ([], [], false)) := Lib.hid (by rw [← HF.out, List.drop_length]; rfl)
          have HBF : Hid (Below w.heap.size w wr) := Lib.hid hbw
          clear hbw
          go_wp2_with fail
          go_ret3
          exact ⟨none, 0, none, 0, by rw [HE.out]; rfl, by rw [HE.out]; exact Ow.nil _ _ _ _, by rw [HE.out]; exact Ow.nil _ _ _ _, HBF.out⟩
end Fnd
end Go.Proofs.YtmonkggoilhngaaGreatDoor
/- custumallaw30.texts and the document's Find. -/
namespace Go.Proofs.YtmonkggoilhngaaGreatDoor
open Go.RowKit Bits Mem Sha Cad
namespace Fnd
theorem pick_eq (V : List (List UInt8)) (t : List UInt8) : pick V t = (List.range V.length).find? fun k => (sha (V.getD k []) == sha t) && (V.getD k [] != t) := by
  unfold pick idx
  rw [List.find?_filter]
  congr 1
  funext a
  rw [Bool.decide_and, Bool.decide_eq_true, Bool.decide_eq_true]
end Fnd
end Go.Proofs.YtmonkggoilhngaaGreatDoor

/- A part of the proof. Plain; no condition. -/
import Derived.Test.YtjkbpdobeljmjaaGreatDoorP8
/- The walk of rfclog.total. -/
namespace Go.Proofs.YtjkbpdobeljmjaaGreatDoor
open Go.RowKit Bits Mem Sha
namespace Rc
section
variable {P : Program} {ops : Array Oper} {Q : Exit → Act → World → Prop} {B : Nat} {w : World} {spec : List Sp} {fin : List Nat} {tail : List Oper} {p : Nat → Par} {j : Nat} {o : Oper} {r : List Oper} {a : Act}
theorem r_build (hl : look spec j = none) (hw : Region.wanted o (yielded ops a.tmps) = true) (t : TypeId) (parts : Array (Nat × Operand)) (ho : o.op = .build t parts) (cs : Array Value)
    (hb : P.built t (parts.map fun (i, x) => (i, a.eval x)).toList = some cs)
    (h : ∀ K : Act → Prop, (∀ a, wpSeq P ops Q B w spec fin tail p (j + 1) r a → K a) → K (a.put o.dst (.agg cs))) : wpSeq P ops Q B w spec fin tail p j (o :: r) a :=
  r_run _ hl hw (fun x _ => by unfold execOp; simp only [ho, Sem.run_bind, run_build x t _ cs hb, Result.andThen_ok, Sem.run_pure]) h
end
end Rc
theorem l_build {P : Program} {ops : Array Oper} {Q : Exit → Act → World → Prop} {a : Act} {w : World} {o : Oper} {rest : List Oper} (hg : o.guard = none) (t : TypeId) (parts : Array (Nat × Operand)) (ho : o.op = .build t parts) (cs : Array Value)
    (hb : P.built t (parts.map fun (i, x) => (i, a.eval x)).toList = some cs) (h : wpList P ops Q rest (a.put o.dst (.agg cs)) w) : wpList P ops Q (o :: rest) a w :=
  wpList_plain hg fun K hK => by
    unfold Oper.wp execOp
    simp only [ho, Sem.run_bind, run_build w t _ cs hb, Result.andThen_ok, Sem.run_pure]
    exact hK _ _ h
namespace Ref
def pkA (x : List UInt8 × Nat) : Array Value := bysA x.1 ++ #[.int .i64 (x.2 : Int)]
def pkc (x : List UInt8 × Nat) : List Value := (pkA x).toList
theorem pkA_size {x : List UInt8 × Nat} (h : x.1.length = 32) : (pkA x).size = 33 := by simp [pkA, bysA_size, h]
theorem pkc_length {x : List UInt8 × Nat} (h : x.1.length = 32) : (pkc x).length = 33 := by simp [pkc, pkA_size h]
theorem pkA_one (x : List UInt8 × Nat) : (pkA x).all (·.oneCell') = true := by
  simp only [pkA, Array.all_append, bysA_one, Bool.true_and]
  simp [Value.oneCell']
def pks (L : List (List UInt8 × Nat)) : List Value := (L.map pkc).flatten
def AllP (L : List (List UInt8 × Nat)) : Prop := ∀ x ∈ L, x.1.length = 32
theorem AllP.tail {x : List UInt8 × Nat} {L : List (List UInt8 × Nat)} (h : AllP (x :: L)) : AllP L := fun y hy => h y (List.mem_cons_of_mem _ hy)
theorem AllP.head {x : List UInt8 × Nat} {L : List (List UInt8 × Nat)} (h : AllP (x :: L)) : x.1.length = 32 := h x (List.mem_cons_self)
theorem AllP.cons {x : List UInt8 × Nat} {L : List (List UInt8 × Nat)} (hx : x.1.length = 32) (h : AllP L) : AllP (x :: L) := fun y hy => by
  rcases List.mem_cons.1 hy with rfl | hy
  · exact hx
  · exact h y hy
theorem AllP.rev {L : List (List UInt8 × Nat)} (h : AllP L) : AllP L.reverse := fun y hy => h y (List.mem_reverse.1 hy)
theorem pks_length : ∀ {L : List (List UInt8 × Nat)}, AllP L → (pks L).length = L.length * 33
  | [], _ => rfl
  | x :: L, h => by
    have := pks_length h.tail
    unfold pks at this ⊢
    rw [List.map_cons, List.flatten_cons, List.length_append, pkc_length h.head, this, List.length_cons]
    omega
theorem pks_append (L M : List (List UInt8 × Nat)) : pks (L ++ M) = pks L ++ pks M := by simp [pks]
theorem pks_get : ∀ {L : List (List UInt8 × Nat)} (k : Nat) (x : List UInt8 × Nat), AllP L → L[k]? = some x → ∀ j, j < 33 → (pks L)[k * 33 + j]? = (pkc x)[j]?
  | y :: L, 0, x, h, hx, j, hj => by
    obtain rfl : y = x := by simpa using hx
    unfold pks
    rw [List.map_cons, List.flatten_cons, Nat.zero_mul, Nat.zero_add, List.getElem?_append_left (by rw [pkc_length h.head]; exact hj)]
  | y :: L, k + 1, x, h, hx, j, hj => by
    have := pks_get k x h.tail (by simpa using hx) j hj
    unfold pks at this ⊢
    rw [List.map_cons, List.flatten_cons, List.getElem?_append_right (by rw [pkc_length h.head]; omega), pkc_length h.head, show (k + 1) * 33 + j - 33 = k * 33 + j by omega, this]
theorem pkc_size {x : List UInt8 × Nat} (h : x.1.length = 32) : (pkc x)[32]? = some (.int .i64 (x.2 : Int)) := by
  unfold pkc pkA
  rw [Array.toList_append, List.getElem?_append_right (by simp [bysA_size, h])]
  simp [bysA_size, h]
theorem pkA_get32 {x : List UInt8 × Nat} (h : x.1.length = 32) : (pkA x)[32]? = some (.int .i64 (x.2 : Int)) := by
  have := pkc_size h
  unfold pkc at this
  simpa using this
theorem pkc_sum (x : List UInt8 × Nat) (j : Nat) (h : x.1.length = 32) (hj : j < 32) : (pkc x)[j]? = (bys x.1)[j]? := by
  unfold pkc pkA
  rw [Array.toList_append, List.getElem?_append_left (by simp [bysA_size, h, hj])]
  simp [bysA]
theorem z33 : (#[.int .u8 0, .int .u8 0, .int .u8 0, .int .u8 0, .int .u8 0, .int .u8 0, .int .u8 0, .int .u8 0, .int .u8 0, .int .u8 0, .int .u8 0, .int .u8 0, .int .u8 0, .int .u8 0, .int .u8 0, .int .u8 0, .int .u8 0, .int .u8 0, .int .u8 0, .int .u8 0, .int .u8 0, .int .u8 0, .int .u8 0, .int .u8 0, .int .u8 0, .int .u8 0, .int .u8 0, .int .u8 0, .int .u8 0, .int .u8 0, .int .u8 0, .int .u8 0, .int .i64 0] : Array Value) = pkA (zeros32, 0) := rfl
theorem infoPk : (Tryz.prog.info? 229).map (fun i => (i.zero, i.size, i.bytes)) = some (some (.agg (pkA (zeros32, 0))), 33, 40) := by kernel_rfl
theorem infoPs {x : List UInt8 × Nat} (h : x.1.length = 32) : (Tryz.prog.info? 229).map (·.size) = some (pkA x).size := by rw [pkA_size h]; kernel_rfl
theorem range_list (s : List UInt8) (h : s.length = 32) : (List.range 32).map (fun i => s.getD i 0) = s := by
  refine List.ext_getElem? fun j => ?_
  by_cases hj : j < 32
  · rw [List.getElem?_map, List.getElem?_range hj]
    simp [List.getElem?_eq_getElem (show j < s.length by omega)]
  · rw [List.getElem?_eq_none (by simp; omega), List.getElem?_eq_none (by omega)]
theorem pk_built0 (g : Nat → UInt8) (z : Int) : Tryz.prog.built 229 [(0, .agg (bysA ((List.range 32).map g))), (1, .int .i64 z)] = some (bysA ((List.range 32).map g) ++ #[.int .i64 z]) := by kernel_rfl
theorem pk_built (s : List UInt8) (z : Nat) (h : s.length = 32) : Tryz.prog.built 229 [(0, .agg (bysA s)), (1, .int .i64 (z : Int))] = some (pkA (s, z)) := by
  have := pk_built0 (fun i => s.getD i 0) z
  rw [range_list s h] at this
  exact this
theorem pk_sum {w : World} {g : Nat} {x : List UInt8 × Nat} {t : TypeId} {f : Nat × Nat} (h : w.heap[g]? = some (.cells (pkA x) t f)) (hx : x.1.length = 32) : (Instr.loadAt 22 (.pointer (some ⟨g, 0, none⟩))).run Tryz.prog w = .ok (.agg (bysA x.1)) w := by
  refine run_loadAt_mid w g 0 _ (bys x.1) _ (fun j v hv => ?_) Tryz.underlying22 rfl (by rw [bys_length, hx]; exact info32)
  have hj := (List.getElem?_eq_some_iff.1 hv).1
  rw [bys_length] at hj
  rw [cell_of_row w g _ _ _ _ h, Nat.zero_add, ← hv, ← pkc_sum x j hx (by omega)]
  unfold pkc
  simp
theorem Ow_cut {w : World} {base n k : Nat} {e : TypeId} {size : Nat} {q : Option Addr} {c : Nat} {xs : List Value} (h : Ow w base e size (.slice q n c) n xs) (hk : k ≤ n) : Ow w base e size (.slice q k c) k (xs.take (k * size)) := by
  have hks : k * size ≤ n * size := Nat.mul_le_mul_right _ hk
  refine ⟨by rw [List.length_take, h.1]; omega, ?_⟩
  rcases h.2 with ⟨hv, hn⟩ | ⟨g, cap, cur, fz, hv, hb, hg, hf, hnc, hcm, hcs, ht⟩
  · injection hv with h1 h2 h3
    exact .inl ⟨by rw [h1, h3, show k = 0 by omega], by omega⟩
  · injection hv with h1 h2 h3
    subst h1 h3
    exact .inr ⟨g, c, cur, fz, rfl, hb, hg, hf, by omega, hcm, hcs, by rw [← ht, List.take_take, Nat.min_eq_left hks]⟩
theorem merge_sum (ps : List (List UInt8 × Nat)) : ∀ (s : List UInt8) (z : Nat), ((Rfc.merge nodeS s z ps).map (·.2)).sum = (ps.map (·.2)).sum + z := by
  induction ps with
  | nil => intro s z; simp [Rfc.merge]
  | cons x xs ih =>
    intro s z
    rw [Rfc.merge]
    split
    · rename_i h
      rw [ih]; simp [h]; omega
    · simp; omega
theorem merge_all (ps : List (List UInt8 × Nat)) (h : AllP ps) : ∀ (s : List UInt8) (z : Nat), s.length = 32 → AllP (Rfc.merge nodeS s z ps) := by
  induction ps with
  | nil => intro s z hs; exact AllP.cons hs (fun _ h => by cases h)
  | cons x xs ih =>
    intro s z hs
    rw [Rfc.merge]
    split
    · exact ih h.tail _ _ (nodeS_length _ _)
    · exact AllP.cons hs h
theorem merge_len (ps : List (List UInt8 × Nat)) : ∀ (s : List UInt8) (z : Nat), (Rfc.merge nodeS s z ps).length ≤ ps.length + 1 := by
  induction ps with
  | nil => intro s z; simp [Rfc.merge]
  | cons x xs ih =>
    intro s z
    rw [Rfc.merge]
    split
    · exact Nat.le_trans (ih _ _) (by simp)
    · simp
def pk (L : List (List UInt8)) (i : Nat) : List (List UInt8 × Nat) := Rfc.peaks nodeS (L.take i)
theorem pk_zero (L : List (List UInt8)) : pk L 0 = [] := rfl
theorem pk_succ (L : List (List UInt8)) (i : Nat) (x : List UInt8) (h : L[i]? = some x) : pk L (i + 1) = Rfc.merge nodeS x 1 (pk L i) := Rfc.peaks_succ nodeS L i x h
theorem pk_facts (L : List (List UInt8)) (hL : All32 L) (i : Nat) (hi : i ≤ L.length) : AllP (pk L i) ∧ ((pk L i).map (·.2)).sum = i ∧ (pk L i).length ≤ i := by
  induction i with
  | zero => exact ⟨fun _ h => (by simp [pk_zero] at h), rfl, Nat.le_refl _⟩
  | succ i ih =>
    obtain ⟨h1, h2, h3⟩ := ih (by omega)
    have hx : L[i]? = some L[i] := List.getElem?_eq_getElem (by omega)
    rw [pk_succ L i _ hx]
    exact ⟨merge_all _ h1 _ _ (hL _ (List.getElem_mem (by omega))), by rw [merge_sum, h2], Nat.le_trans (merge_len _ _ _) (by omega)⟩
theorem pks_load {w x : World} {b off : Nat} {M : List (List UInt8 × Nat)} {y : List UInt8 × Nat} {t : Nat} (hcell : ∀ (j : Nat) (u : Value), (pks M)[j]? = some u → w.cell? ⟨b, off + j, none⟩ = some u) (hb : b < w.heap.size) (hx : Below w.heap.size w x) (hM : AllP M) (hy : M[t]? = some y) :
    (Instr.loadAt 229 (.pointer (some ⟨b, off + t * 33, none⟩))).run Tryz.prog x = .ok (.agg (pkA y)) x ∧ (Instr.loadAt 22 (.pointer (some ⟨b, off + t * 33, none⟩))).run Tryz.prog x = .ok (.agg (bysA y.1)) x := by
  have hyl : y.1.length = 32 := hM _ (List.mem_of_getElem? hy)
  have h0 : ∀ j u, (pkc y)[j]? = some u → x.cell? ⟨b, off + t * 33 + j, none⟩ = some u := fun j u hu => by
    have hj := (List.getElem?_eq_some_iff.1 hu).1
    rw [pkc_length hyl] at hj
    rw [Nat.add_assoc]
    exact (hx.cell (p := ⟨b, off + (t * 33 + j), none⟩) hb).trans (hcell _ u (by rw [pks_get t y hM hy j hj]; exact hu))
  refine ⟨run_loadAt_mid x b (off + t * 33) _ (pkc y) _ (fun j u hu => h0 j u hu) Tryz.underlying229 rfl (by rw [pkc_length hyl]; kernel_rfl), ?_⟩
  refine run_loadAt_mid x b (off + t * 33) _ (bys y.1) _ (fun j u hu => ?_) Tryz.underlying22 rfl (by rw [bys_length, hyl]; exact info32)
  have hj := (List.getElem?_eq_some_iff.1 hu).1
  rw [bys_length, hyl] at hj
  exact h0 j u (by rw [pkc_sum y j hyl hj]; exact hu)
theorem load_whole {w : World} {g : Nat} {l : List UInt8} {t : TypeId} {f : Nat × Nat} (h : w.heap[g]? = some (.cells (bysA l) t f)) (hl : l.length = 32) : (Instr.loadAt 22 (.pointer (some ⟨g, 0, none⟩))).run Tryz.prog w = .ok (.agg (bysA l)) w := by
  refine run_loadAt_mid w g 0 _ (bys l) _ (fun j v hv => ?_) Tryz.underlying22 rfl (by rw [bys_length, hl]; exact info32)
  rw [cell_of_row w g _ _ _ _ h, Nat.zero_add, ← hv]
  simp [bysA]
theorem pks_cut {y : List UInt8 × Nat} {ys : List (List UInt8 × Nat)} (h : AllP (y :: ys)) : (pks (y :: ys).reverse).take (ys.length * 33) = pks ys.reverse := by
  rw [List.reverse_cons, pks_append]
  have := pks_length h.tail.rev
  rw [List.length_reverse] at this
  rw [← this, List.take_left]
set_option maxRecDepth 100000 in
set_option maxHeartbeats 8000000 in
theorem total_any (q0 : Option Addr) (c0 : Nat) (L : List (List UInt8)) (w : World) (hS : Sha.Tabs w) (hL : RdL w (.slice q0 L.length c0) L) (hLm : L.length ≤ 1000000) :
    Calls Tryz.prog 53 #[.slice q0 L.length c0] w fun e w' => e = .returned (.agg (bysA (treeS L))) ∧ Below w.heap.size w w' := by
  obtain ⟨i0, hi, hz0, hz1, hz2⟩ := parts3 infoPk
  have hcap := Rd_cap hL.2
  obtain ⟨w1, hw1⟩ : ∃ w1, w1 = w.alloc (.cells (bysA zeros32) 22) := ⟨_, rfl⟩
  have hb1 : Below w.heap.size w w1 := by rw [hw1]; exact (Below.refl _ _).alloc (Nat.le_refl _) _
  have hr1 : w1.heap[w.heap.size]? = some (.cells (bysA zeros32) 22 (0, 0)) := by rw [hw1]; exact Rg.heap_alloc_at w _ _ rfl
  have HL1 := Lib.hid (hL.below hb1)
  have HR1 := Lib.hid hr1
  have HB1 := Lib.hid hb1
  have HW1 := Lib.hid hw1
  have HS := Lib.hid hS
  have HA := Lib.hid hL.1
  clear hS hL hb1 hr1 hw1 hcap
  go_enter Tryz.func53, Tryz.ntmps53
  go_wp2_with fail
  rw [z32r, ← HW1.out]
  go_loopw [3, 12] (fun v i wr => ∃ (k : Nat) (q : Option Addr) (c : Nat), k ≤ L.length ∧ i = .int .i64 k ∧ v = .slice q (pk L k).length c ∧ Ow wr w1.heap.size 229 33 (.slice q (pk L k).length c) (pk L k).length (pks (pk L k).reverse) ∧ Below w1.heap.size w1 wr) (fun _ i _ => L.length - (intOf i).toNat)
  case atStart => exact ⟨0, none, 0, Nat.zero_le _, rfl, rfl, Ow.nil _ _ _ _, Below.refl _ _⟩
  case round =>
    obtain ⟨k, q, c, hk, rfl, rfl, hown, hbr⟩ := hrel
    by_cases hlt : k < L.length
    · have hkI : (k : Int) < L.length := by omega
      obtain ⟨b, off, hqe, hbl, hnc, hcm, hload⟩ := (HL1.out.below hbr).load hlt
      subst hqe
      obtain ⟨en, hx⟩ : ∃ en, en = L.getD k [] := ⟨_, rfl⟩
      have hxk : L[k]? = some en := by rw [hx, List.getD_eq_getElem?_getD, List.getElem?_eq_getElem hlt]; rfl
      have hxl : en.length = 32 := HA.out _ (List.mem_of_getElem? hxk)
      rw [← hx] at hload
      have hf := pk_facts L HA.out k hk
      have HSU := Lib.hid (pk_succ L k en hxk)
      have HOWN := Lib.hid hown
      have HBR := Lib.hid hbr
      have HLOAD := Lib.hid (hload wr (Below.refl _ _))
      have HXL := Lib.hid hxl
      have HIX : Hid ((Tryz.prog.info? 22).map (·.size) = some (bysA en).size) := Lib.hid (by rw [bysA_size, hxl]; exact info32)
      have HPK := Lib.hid (show Tryz.prog.built 229 [(0, .agg (bysA en)), (1, .int .i64 1)] = some (pkA (en, 1)) from pk_built en 1 hxl)
      have HF := Lib.hid hf
      clear hown hbr hload hx hxk hxl hf
      have HPI : Hid ((Tryz.prog.info? 229).map (·.size) = some (pkA (en, 1)).size) := Lib.hid (infoPs HXL.out)
      have hrs : (wr.alloc (.cells (bysA en) 22)).heap[wr.heap.size]? = some (.cells (bysA en) 22 (0, 0)) := Rg.heap_alloc_at wr _ _ rfl
      have hbs : Below wr.heap.size wr (wr.alloc (.cells (bysA en) 22)) := (Below.refl _ _).alloc (Nat.le_refl _) _
      have HRS := Lib.hid hrs
      have HBS := Lib.hid hbs
      clear hrs hbs
      go_wp2_with (first | (refine l_load rfl _ _ rfl _ HLOAD.out ?_) | (refine Rg.store_row_new rfl 22 _ _ rfl wr.heap.size rfl rfl 22 _ (bysA en) rfl HIX.out (by rw [bysA_size, HXL.out]; rfl) (bysA_one _) ?_) | (refine wpList_load_row rfl 22 _ rfl wr.heap.size rfl 22 (bysA en) (0, 0) _ HRS.out Tryz.underlying22 rfl HIX.out ?_) | (refine l_build rfl 229 _ rfl (pkA (en, 1)) (by go_simp; exact HPK.out) ?_) | (refine Rg.store_row_new rfl 229 _ _ rfl (wr.heap.size + 1) (by simp) rfl 229 _ (pkA (en, 1)) rfl HPI.out (by rw [pkA_size HXL.out]; rfl) (pkA_one _) ?_))
      go_simp
      obtain ⟨pb, hpb⟩ : ∃ pb, pb = wr.heap.size + 1 := ⟨_, rfl⟩
      obtain ⟨w2, hw2⟩ : ∃ w2, w2 = (wr.alloc (.cells (bysA en) 22)).alloc (.cells (pkA (en, 1)) 229) := ⟨_, rfl⟩
      have HP2 : Hid (w2.heap[pb]? = some (.cells (pkA (en, 1)) 229 (0, 0))) := Lib.hid (by rw [hw2]; exact Rg.heap_alloc_at _ _ _ (by simp [hpb]))
      have HB2 : Hid (Below wr.heap.size wr w2) := Lib.hid (by rw [hw2]; exact HBS.out.alloc (by simp) _)
      have HPB : Hid (wr.heap.size < pb) := Lib.hid (by omega)
      rw [← hw2, ← hpb]
      clear hw2 hpb HPK HPI HRS HBS HLOAD HIX
      obtain ⟨wo, rfl⟩ : ∃ wo, wo = wr := ⟨_, rfl⟩
      go_loopw [3] (fun v wi => ∃ (ps : List (List UInt8 × Nat)) (s : List UInt8) (z : Nat), v = .slice q ps.length c ∧ Hid (Ow wo w1.heap.size 229 33 (.slice q ps.length c) ps.length (pks ps.reverse)) ∧ Hid (wi.heap[pb]? = some (.cells (pkA (s, z)) 229 (0, 0))) ∧ Hid (Below wo.heap.size wo wi) ∧ Hid (AllP ps ∧ s.length = 32 ∧ Rfc.merge nodeS s z ps = pk L (k + 1)) ∧ (ps.map (·.2)).sum + z = k + 1 ∧ ps.length ≤ k) (fun v _ => sliceLen v)
      case atStart => exact ⟨pk L k, en, 1, rfl, HOWN, HP2, HB2, Lib.hid ⟨HF.out.1, HXL.out, HSU.out.symm⟩, by rw [HF.out.2.1], HF.out.2.2⟩
      case round =>
        obtain ⟨ps, s, z, rfl, HO, HP, HB, HM, hsum, hpl⟩ := hrel
        match ps with
        | [] =>
          go_wp2_with fail
          refine Rc.region (wr.heap.size) 15 [] [] (by kernel_rfl) (Nat.le_refl _) (by kernel_rfl) ?_; intro p; simp only [List.take, List.drop]
          iterate 4 (refine Rc.rK rfl rfl ?_; intro K hK; apply Exists.intro; refine ⟨?_, ?_⟩; (focus (intro x hx;  go_simp; (first | (fail) | ((try go_bits); (try go_simp); (try rfl))))); go_simp; refine hK _ ?_; clear hK K)
          iterate 10 (refine Rc.rSkip rfl rfl ?_; intro K hK; go_simp; refine hK _ ?_; clear hK K)
          iterate 1 (refine Rc.rK rfl rfl ?_; intro K hK; apply Exists.intro; refine ⟨?_, ?_⟩; (focus (intro x hx;  go_simp; (first | (fail) | ((try go_bits); (try go_simp); (try rfl))))); go_simp; refine hK _ ?_; clear hK K)
          refine Rc.done fun x Fs hx hle hg => ?_
          have HMG : Hid (pk L (k + 1) = [(s, z)]) := Lib.hid HM.out.2.2.symm
          go_wp2_with fail
          refine NoPanic.normal ?_
          have HBX : Hid (Below wo.heap.size wo x) := Lib.hid (HB.out.trans ((Rc.undrew hx).mono HB.out.size))
          have HPX := Lib.hid (Rp.row_le (Rc.undrew hx) HP.out)
          have HOX := Lib.hid (HO.out.below HBX.out)
          have hlit := Rd_lit x (pkA (s, z)) 229 33 1 (by rw [pkA_size HM.out.2.1]) (by decide)
          have HLIT := Lib.hid hlit
          have HIP := Lib.hid (infoPs (x := (s, z)) HM.out.2.1)
          have hfill := fill_all (pkA (s, z)) (pkA (zeros32, 0)) (by rw [pkA_size HM.out.2.1, pkA_size (by rfl)])
          rw [pkA_size HM.out.2.1] at hfill
          have HFILL := Lib.hid hfill
          have hsx : w1.heap.size ≤ x.heap.size := Nat.le_trans HBR.out.size HBX.out.size
          have hps := pkA_size (x := (s, z)) HM.out.2.1
          clear hx hle hg hlit hfill
          go_wp2_with (first | (refine wpList_load_row rfl 229 _ rfl pb rfl 229 (pkA (s, z)) (0, 0) _ HPX.out Tryz.underlying229 rfl HIP.out ?_) | (rw [z33, HFILL.out]; at_builtin; go_must (refine app_ow rfl _ _ 227 227 rfl w1.heap.size 229 i0 (.agg (pkA (zeros32, 0))) 33 40 Tryz.underlying227 hi hz0 hz1 hz2 (by rfl) _ _ _ rfl (HOX.out.alloc _) _ _ _ rfl (Rd.src Tryz.underlying227 HLIT.out (by intro u hu; exact (Array.all_eq_true_iff_forall_mem.1 (pkA_one (s, z))) u (by simpa using hu))) (by unfold maxLen; omega) (by omega) (by simp; omega) ?_); go_must (intro v3 w3 how3 hg3); go_must (obtain ⟨q3, c3, rfl⟩ := Ow_form how3)))
          have hx1 : Below x.heap.size x (x.alloc (.cells (pkA (s, z)) 229)) := (Below.refl _ _).alloc (Nat.le_refl _) _
          have hbx : Below w1.heap.size w1 (x.alloc (.cells (pkA (s, z)) 229)) := (HBR.out.trans ((HBX.out.trans (hx1.mono HBX.out.size)).mono HBR.out.size))
          have hb3 : Below w1.heap.size w1 w3 := hbx.grown hg3 hbx.size (fun j hj => (HOX.out.lt j hj).1)
          refine ⟨⟨k + 1, q3, c3, by omega, by go_num, by rw [HMG.out]; rfl, ?_, hb3⟩, by simp [intOf]; omega⟩
          rw [HMG.out, List.reverse_cons, pks_append]
          simpa [pks, pkc] using how3
        | y :: ys =>
          obtain ⟨bq, oq, hqe, hbq, hnc2, hcm2, hcell⟩ := Rd_lt (Rd.of_ow HO.out) (by simp)
          subst hqe
          have hyl := HM.out.1.head
          have hbqi : bq < wr.heap.size := Nat.lt_of_lt_of_le hbq HB.out.size
          have hget : (y :: ys).reverse[ys.length]? = some y := by rw [List.reverse_cons, List.getElem?_append_right (by simp)]; simp
          have c1 : wr.cell? ⟨bq, oq + ys.length * 33 + 32, none⟩ = some (.int .i64 (y.2 : Int)) := by rw [Nat.add_assoc]; exact (HB.out.cell (p := ⟨bq, oq + (ys.length * 33 + 32), none⟩) hbq).trans (hcell (ys.length * 33 + 32) _ (by rw [pks_get _ y HM.out.1.rev hget 32 (by decide)]; exact pkc_size hyl))
          have c2 : wr.cell? ⟨pb, 32, none⟩ = some (.int .i64 (z : Int)) := by rw [cell_of_row _ _ _ _ _ _ HP.out]; exact pkA_get32 HM.out.2.1
          have hpbi : pb < wr.heap.size := lt_of_heap HP.out
          have HCELL := Lib.hid hcell
          clear hcell
          have hysb : (ys.length : Int) < 9223372036854775807 := by simp at hpl; omega
          have hysc : ys.length < c := by simp at hnc2; omega
          have hII : (ys.length : Int) < (ys.length : Int) + 1 := by omega
          by_cases hyz : y.2 = z
          · have hE : ((y.2 : Int) == (z : Int)) = true := by rw [beq_iff_eq]; omega
            go_wp2_with fail
            refine Rc.region (wr.heap.size) 15 [] [] (by kernel_rfl) (Nat.le_refl _) (by kernel_rfl) ?_; intro p; simp only [List.take, List.drop]
            iterate 15 (refine Rc.rK rfl rfl ?_; intro K hK; apply Exists.intro; refine ⟨?_, ?_⟩; (focus (intro x hx; have c1x := Rc.cell_le hx hbqi c1; have c2x := Rc.cell_le hx hpbi c2; go_simp; (first | (fail) | ((try go_bits); (try go_simp); (try rfl))))); go_simp; refine hK _ ?_; clear hK K)
            refine Rc.done fun x Fs hx hle hg => ?_
            go_wp2_with fail
            refine NoPanic.normal ?_
            have HBX : Hid (Below wo.heap.size wo x) := Lib.hid (HB.out.trans ((Rc.undrew hx).mono HB.out.size))
            have HPX := Lib.hid (Rp.row_le (Rc.undrew hx) HP.out)
            have hld := pks_load HCELL.out hbq HBX.out HM.out.1.rev hget
            have HLD := Lib.hid hld.1
            have HIY := Lib.hid (infoPs (x := y) hyl)
            have HYL := Lib.hid hyl
            obtain ⟨wl, hwl⟩ : ∃ wl, wl = x.alloc (.cells (pkA y) 229) := ⟨_, rfl⟩
            have hbl' : Below x.heap.size x wl := by rw [hwl]; exact (Below.refl _ _).alloc (Nat.le_refl _) _
            have HLL : Hid (wl.heap[x.heap.size]? = some (.cells (pkA y) 229 (0, 0))) := Lib.hid (by rw [hwl]; exact Rg.heap_alloc_at _ _ _ rfl)
            have HPL := Lib.hid (Rp.row_le hbl' HPX.out)
            have HBL : Hid (Below wo.heap.size wo wl) := Lib.hid (HBX.out.trans (hbl'.mono HBX.out.size))
            have HWL := Lib.hid hwl
            clear hx hle hg hld hwl hbl' hyl c1 c2 hE
            go_wp2_with (first | (refine l_load rfl _ _ rfl _ HLD.out ?_) | (refine Rg.store_row_new rfl 229 _ _ rfl x.heap.size rfl rfl 229 _ (pkA y) rfl HIY.out (by rw [pkA_size HYL.out]; rfl) (pkA_one _) ?_))
            go_simp
            rw [← HWL.out]
            obtain ⟨lb, hlb⟩ : ∃ lb, lb = x.heap.size := ⟨_, rfl⟩
            rw [← hlb] at HLL ⊢
            clear hlb HPX HBX HLD HWL
            obtain ⟨N, hN⟩ : ∃ N, N = nodeS y.1 s := ⟨_, rfl⟩
            have HN := Lib.hid hN
            have HNL : Hid (N.length = 32) := Lib.hid (by rw [hN]; exact nodeS_length _ _)
            have HBU := Lib.hid (show Tryz.prog.built 229 [(0, .agg (bysA N)), (1, .int .i64 (2 * (z : Int)))] = some (pkA (N, 2 * z)) from by
              have := pk_built N (2 * z) HNL.out
              rwa [show ((2 * z : Nat) : Int) = 2 * (z : Int) by simp] at this)
            have HIN := Lib.hid (infoPs (x := (N, 2 * z)) HNL.out)
            have c2 : wl.cell? ⟨pb, 32, none⟩ = some (.int .i64 (z : Int)) := by rw [cell_of_row _ _ _ _ _ _ HPL.out]; exact pkA_get32 HM.out.2.1
            have hpbl : pb < wl.heap.size := lt_of_heap HPL.out
            have hzk : (z : Int) ≤ (k : Int) + 1 := by omega
            have hkm : (k : Int) < 1000000 := by omega
            clear hN
            refine Rc.region (wl.heap.size) 9 [Rc.F 4 (fun _ => .agg (bysA N)) (fun _ _ _ => True)] [] (by kernel_rfl) (Nat.le_refl _) (by kernel_rfl) ?_; intro p; simp only [List.take, List.drop]
            iterate 1 (refine Rc.rK rfl rfl ?_; intro K hK; apply Exists.intro; refine ⟨?_, ?_⟩; (focus (intro x hx;  go_simp; (first | (fail) | ((try go_bits); (try go_simp); (try rfl))))); go_simp; refine hK _ ?_; clear hK K)
            refine Rc.r_load rfl rfl _ _ rfl (.agg (bysA y.1)) (fun x hx => pk_sum (Rp.row_le (Rc.undrew hx) HLL.out) HYL.out) ?_; intro K hK; go_simp; refine hK _ ?_; clear hK K
            iterate 1 (refine Rc.rK rfl rfl ?_; intro K hK; apply Exists.intro; refine ⟨?_, ?_⟩; (focus (intro x hx;  go_simp; (first | (fail) | ((try go_bits); (try go_simp); (try rfl))))); go_simp; refine hK _ ?_; clear hK K)
            refine Rc.r_load rfl rfl _ _ rfl (.agg (bysA s)) (fun x hx => pk_sum (Rp.row_le (Rc.undrew hx) HPL.out) HM.out.2.1) ?_; intro K hK; go_simp; refine hK _ ?_; clear hK K
            refine Rc.fK rfl rfl rfl rfl ?_ ?_
            · intro x Fs hx hle hg K hK
              have hbx := HB1.out.trans ((HBR.out.trans ((HBL.out.trans ((Rc.undrew hx).mono HBL.out.size)).mono HBR.out.size)).mono HB1.out.size)
              go_wp2_with fail
              refine (node_any y.1 s x (HS.out.below hbx) HYL.out HM.out.2.1).mono ?_
              rintro e x' ⟨rfl, hb⟩
              rw [← HN.out]
              go_wp2_with fail
              exact hK Rc.dflt x' hb (fun _ _ _ _ => trivial)
            intro K hK; go_simp; refine hK _ ?_; clear hK K
            iterate 3 (refine Rc.rK rfl rfl ?_; intro K hK; apply Exists.intro; refine ⟨?_, ?_⟩; (focus (intro x hx; have c2x := Rc.cell_le hx hpbl c2; go_simp; (first | (fail) | ((try go_bits); (try go_simp); (try rfl))))); go_simp; refine hK _ ?_; clear hK K)
            refine Rc.r_build rfl rfl 229 _ rfl (pkA (N, 2 * z)) (by go_simp; exact HBU.out) ?_
            intro K hK; go_simp; refine hK _ ?_; clear hK K
            refine Rc.done fun x Fs hx hle hg => ?_
            have HPX := Lib.hid (Rp.row_le (Rc.undrew hx) HPL.out)
            have HBX : Hid (Below wo.heap.size wo x) := Lib.hid (HBL.out.trans ((Rc.undrew hx).mono HBL.out.size))
            clear hx hle hg c2
            go_wp2_with (refine Rg.store_row rfl 229 _ _ rfl pb rfl 229 (pkA (s, z)) (pkA (N, 2 * z)) rfl HPX.out HIN.out (by rw [pkA_size HM.out.2.1, pkA_size HNL.out]) (pkA_one _) ?_)
            refine NoPanic.normal ?_
            go_wp2_with fail
            refine ⟨⟨ys, N, 2 * z, rfl, Lib.hid ?_, Lib.hid (setRow_heap _ _ _ _ _ _ HPX.out), Lib.hid (Rg.below_setRow HBX.out (Nat.le_of_lt HPB.out) _), Lib.hid ⟨HM.out.1.tail, HNL.out, ?_⟩, ?_, ?_⟩, by simp [sliceLen]⟩
            · have := Ow_cut HO.out (k := ys.length) (by simp)
              rw [pks_cut HM.out.1] at this
              exact this
            · rw [HN.out, ← HM.out.2.2, Rfc.merge, if_pos hyz]
            · simp at hsum; omega
            · simp at hpl; omega
          · have hE : ((y.2 : Int) == (z : Int)) = false := by rw [beq_eq_false_iff_ne]; omega
            go_wp2_with fail
            refine Rc.region (wr.heap.size) 15 [] [] (by kernel_rfl) (Nat.le_refl _) (by kernel_rfl) ?_; intro p; simp only [List.take, List.drop]
            iterate 15 (refine Rc.rK rfl rfl ?_; intro K hK; apply Exists.intro; refine ⟨?_, ?_⟩; (focus (intro x hx; have c1x := Rc.cell_le hx hbqi c1; have c2x := Rc.cell_le hx hpbi c2; go_simp; (first | (fail) | ((try go_bits); (try go_simp); (try rfl))))); go_simp; refine hK _ ?_; clear hK K)
            refine Rc.done fun x Fs hx hle hg => ?_
            have HMG : Hid (pk L (k + 1) = (s, z) :: y :: ys) := Lib.hid (by rw [← HM.out.2.2, Rfc.merge, if_neg hyz])
            clear c1 c2 hE hyz
            go_wp2_with fail
            refine NoPanic.normal ?_
            have HBX : Hid (Below wo.heap.size wo x) := Lib.hid (HB.out.trans ((Rc.undrew hx).mono HB.out.size))
            have HPX := Lib.hid (Rp.row_le (Rc.undrew hx) HP.out)
            have HOX := Lib.hid (HO.out.below HBX.out)
            have hlit := Rd_lit x (pkA (s, z)) 229 33 1 (by rw [pkA_size HM.out.2.1]) (by decide)
            have HLIT := Lib.hid hlit
            have HIP := Lib.hid (infoPs (x := (s, z)) HM.out.2.1)
            have hfill := fill_all (pkA (s, z)) (pkA (zeros32, 0)) (by rw [pkA_size HM.out.2.1, pkA_size (by rfl)])
            rw [pkA_size HM.out.2.1] at hfill
            have HFILL := Lib.hid hfill
            have hsx : w1.heap.size ≤ x.heap.size := Nat.le_trans HBR.out.size HBX.out.size
            have hps := pkA_size (x := (s, z)) HM.out.2.1
            clear hx hle hg hlit hfill
            go_wp2_with (first | (refine wpList_load_row rfl 229 _ rfl pb rfl 229 (pkA (s, z)) (0, 0) _ HPX.out Tryz.underlying229 rfl HIP.out ?_) | (rw [z33, HFILL.out]; at_builtin; go_must (refine app_ow rfl _ _ 227 227 rfl w1.heap.size 229 i0 (.agg (pkA (zeros32, 0))) 33 40 Tryz.underlying227 hi hz0 hz1 hz2 (by rfl) _ _ _ rfl (HOX.out.alloc _) _ _ _ rfl (Rd.src Tryz.underlying227 HLIT.out (by intro u hu; exact (Array.all_eq_true_iff_forall_mem.1 (pkA_one (s, z))) u (by simpa using hu))) (by unfold maxLen; omega) (by omega) (by simp; omega) ?_); go_must (intro v3 w3 how3 hg3); go_must (obtain ⟨q3, c3, rfl⟩ := Ow_form how3)))
            have hx1 : Below x.heap.size x (x.alloc (.cells (pkA (s, z)) 229)) := (Below.refl _ _).alloc (Nat.le_refl _) _
            have hbx : Below w1.heap.size w1 (x.alloc (.cells (pkA (s, z)) 229)) := (HBR.out.trans ((HBX.out.trans (hx1.mono HBX.out.size)).mono HBR.out.size))
            have hb3 : Below w1.heap.size w1 w3 := hbx.grown hg3 hbx.size (fun j hj => (HOX.out.lt j hj).1)
            refine ⟨⟨k + 1, q3, c3, by omega, by go_num, by rw [HMG.out]; rfl, ?_, hb3⟩, by simp [intOf]; omega⟩
            rw [HMG.out, List.reverse_cons, pks_append]
            simpa [pks, pkc] using how3
    · obtain rfl : k = L.length := by omega
      have HTOP : Hid (treeS L = Rfc.top nodeS (sha []) (pk L L.length)) := Lib.hid (by unfold treeS pk; rw [List.take_length, Rfc.top_peaks])
      have HF := Lib.hid (pk_facts L HA.out L.length (Nat.le_refl _))
      have HBR := Lib.hid hbr
      have HOWN := Lib.hid hown
      clear hbr hown
      obtain ⟨ps, hps⟩ : ∃ ps, ps = pk L L.length := ⟨_, rfl⟩
      rw [← hps] at HTOP HF HOWN ⊢
      clear hps
      obtain ⟨R, hR⟩ : ∃ R, R = treeS L := ⟨_, rfl⟩
      have HRE := Lib.hid hR
      have HRL : Hid (R.length = 32) := Lib.hid (by rw [hR]; exact treeS_length L HA.out)
      have HIR : Hid ((Tryz.prog.info? 22).map (·.size) = some (bysA R).size) := Lib.hid (by rw [bysA_size, HRL.out]; exact info32)
      rw [← hR] at HTOP
      clear hR
      match ps with
      | [] =>
        go_wp2_with fail
        have hp0 := parts_any none 0 [] wr (HS.out.below (HB1.out.trans (HBR.out.mono HB1.out.size))) ⟨[], Rd.nil _ _, fun i hi => by simp at hi⟩ (by decide)
        refine hp0.mono ?_
        clear hp0
        rintro e w7 ⟨rfl, hb7⟩
        rw [show sha ([] : List (List UInt8)).flatten = R from HTOP.out.symm]
        have HBZ : Hid (Below w1.heap.size w1 w7) := Lib.hid (HBR.out.trans (hb7.mono HBR.out.size))
        have HRZ := Lib.hid (Rp.row_le HBZ.out HR1.out)
        have HBW : Hid (Below w.heap.size w w7) := Lib.hid (HB1.out.trans (HBZ.out.mono HB1.out.size))
        clear hb7
        go_wp2_with (refine Rg.store_row rfl 22 _ _ rfl w.heap.size rfl 22 (bysA zeros32) (bysA R) rfl HRZ.out HIR.out (by rw [bysA_size, bysA_size, HRL.out]; rfl) (bysA_one _) ?_)
        refine bodyPost_ret (v := .agg (bysA R)) (results_cell_row (P := Tryz.prog) rfl _ _ w.heap.size 22 (bysA R) (0, 0) _ rfl (setRow_heap _ _ _ _ 22 _ HRZ.out) Tryz.underlying22 rfl HIR.out) rfl ⟨by rw [HRE.out], ?_⟩
        exact Rg.below_setRow HBW.out (Nat.le_refl _) _
      | y :: ys =>
        obtain ⟨bq, oq, hqe, hbq, hnc2, hcm2, hcell⟩ := Rd_lt (Rd.of_ow HOWN.out) (by simp)
        subst hqe
        have hpl := HF.out.2.2
        have hysb : (ys.length : Int) < 1000000 := by simp at hpl; omega
        have hII : (ys.length : Int) < (ys.length : Int) + 1 := by omega
        have hysc : ys.length < c := by simp at hnc2; omega
        have hget : (y :: ys).reverse[ys.length]? = some y := by rw [List.reverse_cons, List.getElem?_append_right (by simp)]; simp
        have hld := pks_load hcell hbq (Below.refl _ _) HF.out.1.rev hget
        have HLD := Lib.hid hld.2
        have HYL := Lib.hid HF.out.1.head
        have HIY : Hid ((Tryz.prog.info? 22).map (·.size) = some (bysA y.1).size) := Lib.hid (by rw [bysA_size, HYL.out]; exact info32)
        have HCELL := Lib.hid hcell
        have hE0 : ((ys.length : Int) + 1 == 0) = false := by rw [beq_eq_false_iff_ne]; omega
        clear hcell hld hpl hget hcm2 hnc2
        go_wp2_with (first | (refine l_load rfl _ _ rfl _ HLD.out ?_) | (refine Rg.store_row_new rfl 22 _ _ rfl wr.heap.size rfl rfl 22 _ (bysA y.1) rfl HIY.out (by rw [bysA_size, HYL.out]; rfl) (bysA_one _) ?_))
        obtain ⟨wo, rfl⟩ : ∃ wo, wo = wr := ⟨_, rfl⟩
        obtain ⟨ob, hob⟩ : ∃ ob, ob = wo.heap.size := ⟨_, rfl⟩
        obtain ⟨w2, hw2⟩ : ∃ w2, w2 = wo.alloc (.cells (bysA y.1) 22) := ⟨_, rfl⟩
        have HB2 : Hid (Below wo.heap.size wo w2) := Lib.hid (by rw [hw2]; exact (Below.refl _ _).alloc (Nat.le_refl _) _)
        have HO2 : Hid (w2.heap[ob]? = some (.cells (bysA y.1) 22 (0, 0))) := Lib.hid (by rw [hw2]; exact Rg.heap_alloc_at _ _ _ hob)
        rw [← hw2, ← hob]
        have HOB := Lib.hid hob
        clear hw2 hob HLD HIY
        go_loopw [9] (fun v wi => ∃ (j : Nat) (o : List UInt8), j ≤ ys.length ∧ v = .int .i64 ((ys.length : Int) - 1 - (j : Int)) ∧ Hid (o = Rfc.tops nodeS y.1 (ys.take j)) ∧ Hid (o.length = 32) ∧ Hid (wi.heap[ob]? = some (.cells (bysA o) 22 (0, 0))) ∧ Hid (Below wo.heap.size wo wi)) (fun v _ => (intOf v + 1).toNat)
        case atStart => exact ⟨0, y.1, Nat.zero_le _, by congr 1; omega, Lib.hid rfl, HYL, HO2, HB2⟩
        case round =>
          obtain ⟨j, o, hj, rfl, HT, HL, HO, HB⟩ := hrel
          have HIO : Hid ((Tryz.prog.info? 22).map (·.size) = some (bysA o).size) := Lib.hid (by rw [bysA_size, HL.out]; exact info32)
          by_cases hjl : j < ys.length
          · obtain ⟨t, ht⟩ : ∃ t, t = ys.length - 1 - j := ⟨_, rfl⟩
            rw [show (ys.length : Int) - 1 - (j : Int) = (t : Int) by omega]
            obtain ⟨u, hu⟩ : ∃ u, ys[j]? = some u := ⟨_, List.getElem?_eq_getElem hjl⟩
            have hul : u.1.length = 32 := HF.out.1.tail _ (List.mem_of_getElem? hu)
            have hget : (y :: ys).reverse[t]? = some u := by
              rw [List.reverse_cons, List.getElem?_append_left (by simp; omega), List.getElem?_reverse (by omega), ht, ← hu]
              congr 1
              omega
            have hld := pks_load HCELL.out hbq HB.out HF.out.1.rev hget
            have HLD : Hid (∀ x, Below wr.heap.size wr x → (Instr.loadAt 22 (.pointer (some ⟨bq, oq + t * 33, none⟩))).run Tryz.prog x = .ok (.agg (bysA u.1)) x) := Lib.hid (fun x hx => (pks_load HCELL.out hbq (HB.out.trans (hx.mono HB.out.size)) HF.out.1.rev hget).2)
            have HTN : Hid (nodeS u.1 o = Rfc.tops nodeS y.1 (ys.take (j + 1))) := Lib.hid (by
              rw [List.take_add_one, hu, HT.out]
              unfold Rfc.tops
              rw [List.foldl_append]
              rfl)
            have HUL := Lib.hid hul
            have hII2 : (t : Int) < (ys.length : Int) + 1 := by omega
            have htc : t < c := by omega
            have HTE : Hid ((t : Int) = (ys.length : Int) - 1 - (j : Int)) := Lib.hid (by omega)
            obtain ⟨N, hN⟩ : ∃ N, N = nodeS u.1 o := ⟨_, rfl⟩
            have HN := Lib.hid hN
            rw [← hN] at HTN
            have HNL : Hid (N.length = 32) := Lib.hid (by rw [hN]; exact nodeS_length _ _)
            have HIN : Hid ((Tryz.prog.info? 22).map (·.size) = some (bysA N).size) := Lib.hid (by rw [bysA_size, HNL.out]; exact info32)
            clear hu hget hld hul ht hN
            go_wp2_with fail
            refine Rc.region (wr.heap.size) 7 [Rc.F 6 (fun _ => .agg (bysA N)) (fun _ _ _ => True)] [] (by kernel_rfl) (Nat.le_refl _) (by kernel_rfl) ?_; intro p; simp only [List.take, List.drop]
            iterate 4 (refine Rc.rK rfl rfl ?_; intro K hK; apply Exists.intro; refine ⟨?_, ?_⟩; (focus (intro x hx;  go_simp; (first | (fail) | ((try go_bits); (try go_simp); (try rfl))))); go_simp; refine hK _ ?_; clear hK K)
            refine Rc.r_load rfl rfl _ _ rfl (.agg (bysA u.1)) (fun x hx => HLD.out x (Rc.undrew hx)) ?_; intro K hK; go_simp; refine hK _ ?_; clear hK K
            refine Rc.r_load rfl rfl _ _ rfl (.agg (bysA o)) (fun x hx => load_whole (Rp.row_le (Rc.undrew hx) HO.out) HL.out) ?_; intro K hK; go_simp; refine hK _ ?_; clear hK K
            refine Rc.fK rfl rfl rfl rfl ?_ ?_
            · intro x Fs hx hle hg K hK
              have hbx := HB1.out.trans ((HBR.out.trans ((HB.out.trans ((Rc.undrew hx).mono HB.out.size)).mono HBR.out.size)).mono HB1.out.size)
              go_wp2_with fail
              refine (node_any u.1 o x (HS.out.below hbx) HUL.out HL.out).mono ?_
              rintro e x' ⟨rfl, hb⟩
              rw [← HN.out]
              go_wp2_with fail
              exact hK Rc.dflt x' hb (fun _ _ _ _ => trivial)
            intro K hK; go_simp; refine hK _ ?_; clear hK K
            refine Rc.done fun x Fs hx hle hg => ?_
            have HOX := Lib.hid (Rp.row_le (Rc.undrew hx) HO.out)
            have HBX : Hid (Below wo.heap.size wo x) := Lib.hid (HB.out.trans ((Rc.undrew hx).mono HB.out.size))
            clear hx hle hg
            go_wp2_with (refine Rg.store_row rfl 22 _ _ rfl ob rfl 22 (bysA o) (bysA N) rfl HOX.out HIN.out (by rw [bysA_size, bysA_size, HL.out, HNL.out]) (bysA_one _) ?_)
            refine NoPanic.normal ?_
            go_wp2_with fail
            exact ⟨⟨j + 1, N, by omega, by have := HTE.out; congr 1; omega, HTN, HNL, Lib.hid (setRow_heap _ _ _ _ _ _ HOX.out), Lib.hid (Rg.below_setRow HBX.out (Nat.le_of_eq HOB.out.symm) _)⟩, by simp [intOf]⟩
          · obtain rfl : j = ys.length := by omega
            rw [show (ys.length : Int) - 1 - (ys.length : Int) = -1 by omega]
            have hoR : o = R := by rw [HT.out, List.take_length, HTOP.out]; rfl
            subst hoR
            have HBZ : Hid (Below w1.heap.size w1 wr) := Lib.hid (HBR.out.trans (HB.out.mono HBR.out.size))
            have HRZ := Lib.hid (Rp.row_le HBZ.out HR1.out)
            have HBW : Hid (Below w.heap.size w wr) := Lib.hid (HB1.out.trans (HBZ.out.mono HB1.out.size))
            go_wp2_with (first | (refine wpList_load_row rfl 22 _ rfl ob rfl 22 (bysA o) (0, 0) _ HO.out Tryz.underlying22 rfl HIO.out ?_) | (refine Rg.store_row rfl 22 _ _ rfl w.heap.size rfl 22 (bysA zeros32) (bysA o) rfl HRZ.out HIO.out (by rw [bysA_size, bysA_size, HL.out]; rfl) (bysA_one _) ?_))
            refine bodyPost_ret (v := .agg (bysA o)) (results_cell_row (P := Tryz.prog) rfl _ _ w.heap.size 22 (bysA o) (0, 0) _ rfl (setRow_heap _ _ _ _ 22 _ HRZ.out) Tryz.underlying22 rfl HIO.out) rfl ⟨by rw [HRE.out], ?_⟩
            exact Rg.below_setRow HBW.out (Nat.le_refl _) _
end Ref
end Go.Proofs.YtjkbpdobeljmjaaGreatDoor


/- The walk of custumallaw18.links. -/
import Derived.Test.YtmcjjionfmdioaaDoorL32
namespace Go.Proofs.YtmcjjionfmdioaaDoor
open Go.RowKit Bits Mem Sha
namespace Ref
/-- A Past's cells. -/
def pastA (f : Int) (a : List UInt8) (v : Value) : Array Value := #[.int .i64 f] ++ bysA a ++ #[v]
theorem pastA_size (f : Int) {a : List UInt8} (v : Value) (h : a.length = 32) : (pastA f a v).size = 34 := by simp [pastA, bysA_size, h]
theorem past_from {w : World} {g : Nat} {f : Int} {a : List UInt8} {v : Value} {t : TypeId} {fr : Nat × Nat} (h : w.heap[g]? = some (.cells (pastA f a v) t fr)) : w.cell? ⟨g, 0, none⟩ = some (.int .i64 f) := by
  rw [cell_of_row w g _ _ _ _ h]
  simp only [pastA]
  rw [Array.getElem?_append_left (by simp; omega), Array.getElem?_append_left (by simp)]; rfl
theorem past_roots {w : World} {g : Nat} {f : Int} {a : List UInt8} {v : Value} {t : TypeId} {fr : Nat × Nat} (h : w.heap[g]? = some (.cells (pastA f a v) t fr)) (ha : a.length = 32) : w.cell? ⟨g, 33, none⟩ = some v := by
  rw [cell_of_row w g _ _ _ _ h]
  have : (#[Value.int .i64 f] ++ bysA a).size = 33 := by simp [bysA_size, ha]
  simp only [pastA]
  rw [Array.getElem?_append_right (by omega), this]; rfl
theorem past_ahead {w : World} {g : Nat} {f : Int} {a : List UInt8} {v : Value} {t : TypeId} {fr : Nat × Nat} (h : w.heap[g]? = some (.cells (pastA f a v) t fr)) (ha : a.length = 32) :
    (Instr.loadAt 25 (.pointer (some ⟨g, 1, none⟩))).run Tryd.prog w = .ok (.agg (bysA a)) w := by
  refine run_loadAt_mid w g 1 _ (bys a) _ (fun j u hu => ?_) Tryd.underlying25 rfl (by rw [bys_length, ha]; exact info32)
  have hj := (List.getElem?_eq_some_iff.1 hu).1
  rw [bys_length] at hj
  rw [cell_of_row w g _ _ _ _ h]
  simp only [pastA]
  rw [Array.getElem?_append_left (by simp [bysA_size]; omega), Array.getElem?_append_right (by simp)]
  rw [← hu]
  simp [bysA]
theorem past_rd {w : World} {g : Nat} {f : Int} {a : List UInt8} {v : Value} {t : TypeId} {fr : Nat × Nat} (h : w.heap[g]? = some (.cells (pastA f a v) t fr)) (ha : a.length = 32) : Rd w 1 (.slice (some ⟨g, 1, none⟩) 32 32) 32 (bys a) := by
  refine ⟨by rw [bys_length, ha], .inr ⟨g, 1, 32, rfl, lt_of_heap h, Nat.le_refl _, by decide, fun j u hu => ?_⟩⟩
  have hj := (List.getElem?_eq_some_iff.1 hu).1
  rw [bys_length] at hj
  rw [cell_of_row w g _ _ _ _ h]
  simp only [pastA]
  rw [Array.getElem?_append_left (by simp [bysA_size]; omega), Array.getElem?_append_right (by simp)]
  rw [← hu]
  simp [bysA]
theorem grownBy_setRow (x : World) (g : Nat) (c : Array Value) : x.grownBy (x.setRow g c) (some g) :=
  ⟨rfl, rfl, rfl, by simp, fun k _ hne => setRow_other x g k c (fun e => hne (by rw [e]))⟩
/-- A number that many ahead of another. -/
def ep (f : Int) (k : Nat) : Int := wrap64 (IntKind.u64.wrap (IntKind.u64.wrap f + (k : Int)))
def lk (id : List UInt8) (f : Int) (a : List UInt8) (R : List (List UInt8)) : Nat → List UInt8
  | 0 => a
  | k + 1 => nextLink id (ep f k) (R.getD k []) (lk id f a R k)
theorem lk_length (id : List UInt8) (f : Int) {a : List UInt8} (R : List (List UInt8)) (ha : a.length = 32) : ∀ k, (lk id f a R k).length = 32
  | 0 => ha
  | _ + 1 => nextLink_length _ _ _ _
def lks (id : List UInt8) (f : Int) (a : List UInt8) (R : List (List UInt8)) (k : Nat) : List (List UInt8) := (List.range k).map fun j => lk id f a R (j + 1)
theorem lks_succ (id : List UInt8) (f : Int) (a : List UInt8) (R : List (List UInt8)) (k : Nat) : lks id f a R (k + 1) = lks id f a R k ++ [lk id f a R (k + 1)] := by
  unfold lks; rw [List.range_succ, List.map_append]; rfl
theorem lks_length (id : List UInt8) (f : Int) (a : List UInt8) (R : List (List UInt8)) (k : Nat) : (lks id f a R k).length = k := by simp [lks]
set_option maxRecDepth 100000 in
set_option maxHeartbeats 4000000 in
theorem links_any (q : Option Addr) (c : Nat) (l : List UInt8) (f : Int) (a : List UInt8) (qr : Option Addr) (cr : Nat) (R : List (List UInt8)) (w : World) (hS : Sha.Tabs w) (hl : Rd w 1 (.slice q l.length c) l.length (bys l)) (h : l.length ≤ 1000000) (ha : a.length = 32)
    (hr : RdL w (.slice qr R.length cr) R) :
    Calls Tryd.prog 28 #[.slice q l.length c, .agg (pastA f a (.slice qr R.length cr))] w fun e w' => ∃ v, e = .returned v ∧ OwL w' w.heap.size v (lks l f a (R.take 12) (R.take 12).length) ∧ Below w.heap.size w w' := by
  obtain ⟨i0, hi, hz0, hz1, hz2⟩ := parts3 infoA32
  obtain ⟨wz, hwz⟩ : ∃ wz, wz = w.alloc (.cells (pastA f a (.slice qr R.length cr)) 42) := ⟨_, rfl⟩
  have hbz : Below w.heap.size w wz := by rw [hwz]; exact (Below.refl _ _).alloc (Nat.le_refl _) _
  have hgz : wz.heap[w.heap.size]? = some (.cells (pastA f a (.slice qr R.length cr)) 42 (0, 0)) := by rw [hwz]; exact Rg.heap_alloc_at w _ _ rfl
  have hsz : wz.heap.size = w.heap.size + 1 := by rw [hwz]; simp
  have HS := Lib.hid hS
  have HL := Lib.hid hl
  have HA := Lib.hid ha
  have HR := Lib.hid (hr.below hbz)
  have HWZ := Lib.hid hwz
  have HBZ := Lib.hid hbz
  have HGZ := Lib.hid hgz
  have HSZ := Lib.hid hsz
  have HIA : Hid ((Tryd.prog.info? 25).map (·.size) = some (bysA a).size) := Lib.hid (by rw [bysA_size, ha]; exact info32)
  clear hS hl ha hr hwz hbz hgz hsz
  go_enter Tryd.func28, Tryd.ntmps28
  have c33 := past_roots HGZ.out HA.out
  have c0 := past_from HGZ.out
  have hgl : w.heap.size < wz.heap.size := by rw [HSZ.out]; omega
  go_wp2_with (first | (rw [← HWZ.out]; refine l_load rfl _ _ rfl _ (past_ahead HGZ.out HA.out) ?_) | (refine Rg.store_row_new rfl 25 _ _ rfl wz.heap.size rfl rfl 25 _ (bysA a) rfl HIA.out (by rw [bysA_size, HA.out]; rfl) (bysA_one _) ?_))
  obtain ⟨wa, hwa⟩ : ∃ wa, wa = wz.alloc (.cells (bysA a) 25) := ⟨_, rfl⟩
  have hba : Below wz.heap.size wz wa := by rw [hwa]; exact (Below.refl _ _).alloc (Nat.le_refl _) _
  have hga : wa.heap[wz.heap.size]? = some (.cells (bysA a) 25 (0, 0)) := by rw [hwa]; exact Rg.heap_alloc_at _ _ _ rfl
  rw [← hwa]
  refine (few18_any qr cr R wa (HR.out.below hba)).mono ?_
  rintro e w1 ⟨v1, rfl, hown, hb1⟩
  obtain ⟨q1, c1, rfl⟩ := Ow_form hown.2
  have HR1 := Lib.hid hown.rd
  have HG1 := Lib.hid (Rp.row_le hb1 hga)
  have HB1 := Lib.hid (HBZ.out.trans ((hba.trans (hb1.mono hba.size)).mono HBZ.out.size))
  have HGP := Lib.hid (Rp.row_le (hba.trans (hb1.mono hba.size)) HGZ.out)
  have hlt12 : (R.take 12).length ≤ 12 := by rw [List.length_take]; omega
  obtain ⟨T, hT⟩ : ∃ T, T = R.take 12 := ⟨_, rfl⟩
  rw [← hT] at HR1 hown hlt12 ⊢
  have HTM := Lib.hid hlt12
  have HT := Lib.hid hT
  obtain ⟨ga, hgae⟩ : ∃ ga, ga = wz.heap.size := ⟨_, rfl⟩
  rw [← hgae] at HG1 ⊢
  have hga1 : ga < w1.heap.size := lt_of_heap HG1.out
  have hgw : w.heap.size < ga := by rw [hgae]; exact hgl
  have HNE : Hid ((Value.slice q1 T.length c1).ownBlock = none ∨ (Value.slice q1 T.length c1).ownBlock ≠ some ga) := Lib.hid (by
    cases hk : (Value.slice q1 T.length c1).ownBlock with
    | none => exact .inl rfl
    | some k =>
      refine .inr fun he => ?_
      cases he
      have := (hown.2.lt _ hk).1
      rw [hwa] at this
      simp at this; omega)
  have HGW := Lib.hid hgw
  have HG1L := Lib.hid hga1
  clear hT hlt12 hown hba hga hwa hb1 hgl c0 c33 hgae hgw hga1
  go_wp2_with fail
  go_loopw [5, 8] (fun v i wr => ∃ (k : Nat) (q : Option Addr) (c : Nat), k ≤ T.length ∧ i = .int .i64 k ∧ v = .slice q k c ∧ OwL wr w1.heap.size (.slice q k c) (lks l f a T k) ∧ w1.grownBy wr (some ga) ∧ wr.heap[ga]? = some (.cells (bysA (lk l f a T k)) 25 (0, 0))) (fun _ i _ => T.length - (intOf i).toNat)
  case atStart => exact ⟨0, none, 0, Nat.zero_le _, rfl, rfl, ⟨fun _ h => by simp [lks] at h, Ow.nil _ _ _ _⟩, ⟨rfl, rfl, rfl, Nat.le_refl _, fun _ _ _ => rfl⟩, HG1.out⟩
  case round =>
    obtain ⟨k, qo, co, hk, rfl, rfl, hown, hg1, hga⟩ := hrel
    have HOWN := Lib.hid hown
    have HG1' := Lib.hid hg1
    have HGA := Lib.hid hga
    have HLK := Lib.hid (lk_length l f T HA.out k)
    have HBR : Hid (Below w.heap.size w wr) := Lib.hid (HB1.out.trans ⟨hg1.os, hg1.tape, hg1.output, hg1.size, fun j hj => hg1.block j (by have := HB1.out.size; omega) (by have := HGW.out; simp; omega)⟩)
    clear hown hg1 hga
    by_cases hlt : k < T.length
    · have hltI : (k : Int) < T.length := by omega
      have hk12 : k < 12 := by have := HTM.out; omega
      have HRT : Hid (RdL wr (.slice q1 T.length c1) T) := Lib.hid ⟨HR1.out.1, HR1.out.2.kept HG1'.out HNE.out⟩
      obtain ⟨b, off, hqe, hbl, hnc, hcm, hload⟩ := HRT.out.load hlt
      subst hqe
      have hgp : wr.heap[w.heap.size]? = some (.cells (pastA f a (.slice qr R.length cr)) 42 (0, 0)) := by
        rw [HG1'.out.block _ (lt_of_heap HGP.out) (by have := HGW.out; simp; omega)]; exact HGP.out
      have c0 := past_from hgp
      have hgl := lt_of_heap hgp
      have HLOAD := Lib.hid hload
      have HNX := Lib.hid (show lk l f a T (k + 1) = nextLink l (ep f k) (T.getD k []) (lk l f a T k) from rfl)
      have HXL := Lib.hid (lk_length l f T HA.out (k + 1))
      have HTK := Lib.hid (HRT.out.1.getD hlt)
      have HSX := Lib.hid (lks_succ l f a T k)
      obtain ⟨X, hX⟩ : ∃ X, X = lk l f a T (k + 1) := ⟨_, rfl⟩
      obtain ⟨Y, hY⟩ : ∃ Y, Y = lk l f a T k := ⟨_, rfl⟩
      obtain ⟨Z, hZ⟩ : ∃ Z, Z = T.getD k [] := ⟨_, rfl⟩
      have HXE := Lib.hid hX
      rw [← hX] at HNX HXL HSX
      rw [← hY] at HNX HGA HLK
      rw [← hZ] at HNX HTK HLOAD
      clear hload hX hY hZ hgp
      go_wp2_with fail
      refine Rc.region (wr.heap.size) 14 [Rc.F 13 (fun _ => .agg (bysA X)) (fun _ _ _ => True)] [] (by kernel_rfl) (Nat.le_refl _) (by kernel_rfl) ?_; intro p; simp only [List.take_succ_cons, List.take_zero, List.take_nil, List.drop_succ_cons, List.drop_zero, List.drop_nil]
      iterate 11 (refine Rc.rK rfl rfl ?_; intro K hK; apply Exists.intro; refine ⟨?_, ?_⟩; (focus (intro x hx; have c0x := Rc.cell_le hx hgl c0; go_simp; (first | (fail) | ((try go_bits); (try go_simp); (try rfl))))); go_simp; refine hK _ ?_; clear hK K)
      refine Rc.r_load rfl rfl _ _ rfl (.agg (bysA Z)) (fun x hx => HLOAD.out x (Rc.undrew hx)) ?_; intro K hK; go_simp; refine hK _ ?_; clear hK K
      refine Rc.r_load rfl rfl _ _ rfl (.agg (bysA Y)) (fun x hx => load_mid (l := []) (r := Y) (s := []) (o := 0) (by simpa using (Rg.below_row hx (lt_of_heap HGA.out) HGA.out)) rfl HLK.out) ?_; intro K hK; go_simp; refine hK _ ?_; clear hK K
      refine Rc.fK rfl rfl rfl rfl ?_ ?_
      · intro x Fs hx hle hg K hK
        have hbx := HBR.out.trans ((Rc.undrew hx).mono HBR.out.size)
        go_wp2_with fail
        refine (next_any q c l (ep f k) Z Y x (HS.out.below hbx) (HL.out.below hbx) h HTK.out HLK.out).mono ?_
        rintro e x' ⟨rfl, hb⟩
        rw [← HNX.out]
        go_wp2_with fail
        exact hK Rc.dflt x' hb (fun _ _ _ _ => trivial)
      intro K hK; go_simp; refine hK _ ?_; clear hK K
      refine Rc.done fun x Fs hx hle hg => ?_
      have hgx := Rg.below_row (Rc.undrew hx) (lt_of_heap HGA.out) HGA.out
      have HGX := Lib.hid hgx
      have HIX : Hid ((Tryd.prog.info? 25).map (·.size) = some (bysA X).size) := Lib.hid (by rw [bysA_size, HXL.out]; exact info32)
      have HBX : Hid (Below wr.heap.size wr x) := Lib.hid (Rc.undrew hx)
      clear hgx hx hle hg c0 hbl
      go_wp2_with (refine Rg.store_row rfl 25 _ _ rfl ga rfl 25 (bysA Y) (bysA X) rfl HGX.out HIX.out (by rw [bysA_size, bysA_size, HXL.out, HLK.out]) (bysA_one _) ?_)
      refine NoPanic.normal ?_
      obtain ⟨ws, hws⟩ : ∃ ws, ws = x.setRow ga (bysA X) := ⟨_, rfl⟩
      have hgs : x.grownBy ws (some ga) := by rw [hws]; exact grownBy_setRow x ga (bysA X)
      have hrs : ws.heap[ga]? = some (.cells (bysA X) 25 (0, 0)) := by rw [hws]; exact setRow_heap x ga _ _ _ _ HGX.out
      rw [← hws]
      have hown := HOWN.out
      have hneO : (Value.slice qo k co).ownBlock = none ∨ (Value.slice qo k co).ownBlock ≠ some ga := by
        cases hkk : (Value.slice qo k co).ownBlock with
        | none => exact .inl rfl
        | some j =>
          refine .inr fun he => ?_
          cases he
          have := (hown.2.lt _ hkk).1
          have := HG1L.out
          omega
      have how := (hown.2.below HBX.out).kept hgs hneO
      rw [lks_length] at how
      have HOS := Lib.hid how
      have HNO := Lib.hid hneO
      have HGS := Lib.hid hgs
      have HRS := Lib.hid hrs
      have hsz0 : w1.heap.size ≤ ws.heap.size := Nat.le_trans HG1'.out.size (Nat.le_trans HBX.out.size hgs.size)
      have hlit := Rd_lit ws (bysA X) 25 32 1 (by rw [bysA_size, HXL.out]) (by decide)
      have HLIT := Lib.hid hlit
      have hfill := fill_all (bysA X) (bysA zeros32) (by rw [bysA_size, HXL.out]; rfl)
      have hsX : (bysA X).size = 32 := by rw [bysA_size, HXL.out]
      rw [hsX] at hfill
      have HFILL := Lib.hid hfill
      clear hws hgs hrs hown how hneO hlit hfill
      go_wp2_with (first | (refine wpList_load_row rfl 25 _ rfl ga rfl 25 (bysA X) (0, 0) _ HRS.out Tryd.underlying25 rfl HIX.out ?_) | (rw [z32, HFILL.out]; at_builtin; go_must (refine app_ow rfl _ _ 40 40 rfl w1.heap.size 25 i0 (.agg (bysA zeros32)) 32 32 Tryd.underlying40 hi hz0 hz1 hz2 (by simp [Value.cells, bysA_size, zeros32]) _ _ _ rfl (HOS.out.alloc _) _ _ _ rfl (Rd.src Tryd.underlying40 HLIT.out (bys_one _)) (by unfold maxLen; omega) (by omega) (by simp; omega) ?_); go_must (intro v3 w3 how3 hg3); go_must (obtain ⟨q3, c3, rfl⟩ := Ow_form how3)))
      have hlit1 : Below ws.heap.size ws (ws.alloc (.cells (bysA X) 25)) := (Below.refl _ _).alloc (Nat.le_refl _) _
      have hge : ∀ j, (Value.slice qo k co).ownBlock = some j → w1.heap.size ≤ j := fun j hj => (HOS.out.lt j hj).1
      have hg3 : (ws.alloc (.cells (bysA X) 25)).grownBy w3 (Value.slice qo k co).ownBlock := hg3
      have hall : w1.grownBy w3 (some ga) := by
        refine ⟨hg3.os.trans (HGS.out.os.trans (HBX.out.os.trans HG1'.out.os)), hg3.tape.trans (HGS.out.tape.trans (HBX.out.tape.trans HG1'.out.tape)), hg3.output.trans (HGS.out.output.trans (HBX.out.output.trans HG1'.out.output)), Nat.le_trans hsz0 (Nat.le_trans hlit1.size hg3.size), fun j hj hne => ?_⟩
        have h1 : j < wr.heap.size := Nat.lt_of_lt_of_le hj HG1'.out.size
        have h2 : j < x.heap.size := Nat.lt_of_lt_of_le h1 HBX.out.size
        have h3 : j < ws.heap.size := Nat.lt_of_lt_of_le hj hsz0
        rw [hg3.block j (Nat.lt_of_lt_of_le h3 hlit1.size) (fun e => by have := hge j e.symm; omega), hlit1.block j h3, HGS.out.block j h2 hne, HBX.out.block j h1, HG1'.out.block j hj hne]
      have hga3 : w3.heap[ga]? = some (.cells (bysA X) 25 (0, 0)) := by
        have h3 : ga < ws.heap.size := lt_of_heap HRS.out
        rw [hg3.block ga (Nat.lt_of_lt_of_le h3 hlit1.size) (by
          rcases HNO.out with h | h
          · rw [h]; intro e; cases e
          · exact fun e => h e.symm), hlit1.block ga h3]
        exact HRS.out
      refine ⟨⟨k + 1, q3, c3, by omega, by go_num, rfl, ⟨?_, ?_⟩, hall, by rw [← HXE.out]; exact hga3⟩, by simp [intOf]; omega⟩
      · rw [HSX.out]; exact HOWN.out.1.append (All32.one HXL.out)
      · rw [lks_length, HSX.out, List.flatten_append, bys_append]
        simpa [bysA] using how3
    · obtain rfl : k = T.length := by omega
      go_wp2_with fail
      go_ret
      refine ⟨_, rfl, ?_, HBR.out⟩
      rw [← HT.out]
      exact ⟨HOWN.out.1, by rw [lks_length]; exact (lks_length l f a T T.length ▸ HOWN.out.2).base_le HB1.out.size⟩
end Ref
end Go.Proofs.YtmcjjionfmdioaaDoor

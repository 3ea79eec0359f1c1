/- The walk of custumallaw18.texts. -/
import Derived.Test.YtmcjjionfmdioaaDoorClash
import Derived.Test.YtmcjjionfmdioaaDoorChecks
namespace Go.Proofs.YtmcjjionfmdioaaDoor
open Go.RowKit Bits Mem Sha
namespace Ref
def tx (id : List UInt8) (f : Int) (a : List UInt8) (R L : List (List UInt8)) (k : Nat) : List (List UInt8) := (List.range k).map fun j => linkText id (ep f j) (R.getD j []) (prv a L j)
theorem tx_succ (id : List UInt8) (f : Int) (a : List UInt8) (R L : List (List UInt8)) (k : Nat) : tx id f a R L (k + 1) = tx id f a R L k ++ [linkText id (ep f k) (R.getD k []) (prv a L k)] := by
  unfold tx; rw [List.range_succ, List.map_append]; rfl
theorem tx_length (id : List UInt8) (f : Int) (a : List UInt8) (R L : List (List UInt8)) (k : Nat) : (tx id f a R L k).length = k := by simp [tx]
set_option maxRecDepth 100000 in
set_option maxHeartbeats 4000000 in
theorem texts18_any (l : List UInt8) (f : Int) (a : List UInt8) (qr ql : Option Addr) (cr cl : Nat) (R L : List (List UInt8)) (w : World) (h : l.length ≤ 1000000) (ha : a.length = 32)
    (hr : RdL w (.slice qr R.length cr) R) (hL : RdL w (.slice ql L.length cl) L) (hle : R.length ≤ L.length) (h12 : R.length ≤ 1000) :
    Calls Tryd.prog 32 #[.string ⟨l.toArray⟩, .agg (pastA f a (.slice qr R.length cr)), .slice ql L.length cl] w fun e w' => ∃ v, e = .returned v ∧ Ow w' w.heap.size 9 1 v R.length (strs (tx l f a R L R.length)) ∧ Below w.heap.size w w' := by
  obtain ⟨i0, hi, hz0, hz1, hz2⟩ := parts3 infoStr
  obtain ⟨wz, hwz⟩ : ∃ wz, wz = w.alloc (.cells (pastA f a (.slice qr R.length cr)) 42) := ⟨_, rfl⟩
  have hbz : Below w.heap.size w wz := by rw [hwz]; exact (Below.refl _ _).alloc (Nat.le_refl _) _
  have hgz : wz.heap[w.heap.size]? = some (.cells (pastA f a (.slice qr R.length cr)) 42 (0, 0)) := by rw [hwz]; exact Rg.heap_alloc_at w _ _ rfl
  have hsz : wz.heap.size = w.heap.size + 1 := by rw [hwz]; simp
  have hcl := Rd_cap hL.2
  unfold maxLen at hcl
  have HA := Lib.hid ha
  have HR := Lib.hid hr
  have HK := Lib.hid hL
  have HWZ := Lib.hid hwz
  have HBZ := Lib.hid hbz
  have HGZ := Lib.hid hgz
  have HSZ := Lib.hid hsz
  have HIA : Hid ((Tryd.prog.info? 25).map (·.size) = some (bysA a).size) := Lib.hid (by rw [bysA_size, ha]; exact info32)
  have HLE := Lib.hid hle
  clear ha hr hL hwz hbz hgz hsz hle
  go_enter Tryd.func32, Tryd.ntmps32
  go_wp2_with (first | (rw [← HWZ.out]; refine l_load rfl _ _ rfl _ (past_ahead HGZ.out HA.out) ?_) | (refine Rg.store_row_new rfl 25 _ _ rfl wz.heap.size rfl rfl 25 _ (bysA a) rfl HIA.out (by rw [bysA_size, HA.out]; rfl) (bysA_one _) ?_))
  obtain ⟨wa, hwa⟩ : ∃ wa, wa = wz.alloc (.cells (bysA a) 25) := ⟨_, rfl⟩
  have hba : Below wz.heap.size wz wa := by rw [hwa]; exact (Below.refl _ _).alloc (Nat.le_refl _) _
  have hga : wa.heap[wz.heap.size]? = some (.cells (bysA a) 25 (0, 0)) := by rw [hwa]; exact Rg.heap_alloc_at _ _ _ rfl
  rw [← hwa]
  obtain ⟨ga, hgae⟩ : ∃ ga, ga = wz.heap.size := ⟨_, rfl⟩
  rw [← hgae] at hga ⊢
  have HGW : Hid (w.heap.size < ga) := Lib.hid (by rw [hgae, HSZ.out]; omega)
  have HGL := Lib.hid (lt_of_heap hga)
  have HG1 := Lib.hid hga
  have HBA := Lib.hid (HBZ.out.trans (hba.mono HBZ.out.size))
  have HGP := Lib.hid (Rp.row_le hba HGZ.out)
  clear hwa hba hga hgae HWZ HBZ HGZ HSZ HIA
  go_loopw [7, 9] (fun v i wr => ∃ (k : Nat) (q : Option Addr) (c : Nat), k ≤ R.length ∧ i = .int .i64 k ∧ v = .slice q k c ∧ Ow wr wa.heap.size 9 1 (.slice q k c) k (strs (tx l f a R L k)) ∧ wa.grownBy wr (some ga) ∧ wr.heap[ga]? = some (.cells (bysA (prv a L k)) 25 (0, 0))) (fun _ i _ => R.length - (intOf i).toNat)
  case atStart => exact ⟨0, none, 0, Nat.zero_le _, rfl, rfl, Ow.nil _ _ _ _, ⟨rfl, rfl, rfl, Nat.le_refl _, fun _ _ _ => rfl⟩, HG1.out⟩
  case round =>
    obtain ⟨k, qo, co, hk, rfl, rfl, hown, hg1, hga⟩ := hrel
    have HOWN := Lib.hid hown
    have HG1' := Lib.hid hg1
    have HGA := Lib.hid hga
    have HPL := Lib.hid (prv_length HA.out HK.out.1 (Nat.le_trans hk HLE.out))
    have HBR : Hid (Below w.heap.size w wr) := Lib.hid (HBA.out.trans ⟨hg1.os, hg1.tape, hg1.output, hg1.size, fun j hj => hg1.block j (by have := HBA.out.size; omega) (by have := HGW.out; simp; omega)⟩)
    have hgp : wr.heap[w.heap.size]? = some (.cells (pastA f a (.slice qr R.length cr)) 42 (0, 0)) := by
      rw [hg1.block _ (lt_of_heap HGP.out) (by have := HGW.out; simp; omega)]; exact HGP.out
    have c0 := past_from hgp
    have c33 := past_roots hgp HA.out
    have hgl := lt_of_heap hgp
    clear hown hg1 hga hgp
    by_cases hlt : k < R.length
    · have hltI : (k : Int) < R.length := by omega
      have hltL : k < L.length := Nat.lt_of_lt_of_le hlt HLE.out
      have hltLI : (k : Int) < L.length := by omega
      have HRT : Hid (RdL wr (.slice qr R.length cr) R) := Lib.hid (HR.out.below HBR.out)
      have HRL : Hid (RdL wr (.slice ql L.length cl) L) := Lib.hid (HK.out.below HBR.out)
      obtain ⟨b, off, hqe, hbl, hnc, hcm, _⟩ := HRT.out.load hlt
      obtain ⟨bl, ol, hqe', hbll, _, _, hload⟩ := HRL.out.load hltL
      subst hqe hqe'
      have HSUB := Lib.hid (HRT.out.sub hlt)
      have HLOAD := Lib.hid hload
      have HXL := Lib.hid (HRL.out.1.getD hltL)
      have HZL := Lib.hid (HRT.out.1.getD hlt)
      have HSX := Lib.hid (tx_succ l f a R L k)
      have HPN := Lib.hid (show prv a L (k + 1) = L.getD k [] from rfl)
      obtain ⟨X, hX⟩ : ∃ X, X = L.getD k [] := ⟨_, rfl⟩
      obtain ⟨Y, hY⟩ : ∃ Y, Y = prv a L k := ⟨_, rfl⟩
      obtain ⟨Z, hZ⟩ : ∃ Z, Z = R.getD k [] := ⟨_, rfl⟩
      rw [← hX] at HXL HLOAD HPN
      rw [← hY] at HGA HPL HSX
      rw [← hZ] at HSUB HZL HSX
      clear hload hX hY hZ
      obtain ⟨T, hT⟩ : ∃ T, T = linkText l (ep f k) Z Y := ⟨_, rfl⟩
      rw [← hT] at HSX
      have HTE := Lib.hid hT
      have HIX : Hid ((Tryd.prog.info? 25).map (·.size) = some (bysA X).size) := Lib.hid (by rw [bysA_size, HXL.out]; exact info32)
      have hk1000 : k < 1000 := by omega
      clear hT
      go_wp2_with fail
      refine Rc.region (wr.heap.size) 19 [Rc.F 17 (fun _ => .string ⟨T.toArray⟩) (fun _ _ _ => True), Rc.F 18 (fun p => .slice p.q 1 p.c) (fun p _ y => Rd y 1 (.slice p.q 1 p.c) 1 [.string ⟨T.toArray⟩])] [18] (by kernel_rfl) (Nat.le_refl _) (by kernel_rfl) ?_; intro p; simp only [List.take_succ_cons, List.take_zero, List.take_nil, List.drop_succ_cons, List.drop_zero, List.drop_nil]
      iterate 14 (refine Rc.rK rfl rfl ?_; intro K hK; apply Exists.intro; refine ⟨?_, ?_⟩; (focus (intro x hx; have c0x := Rc.cell_le hx hgl c0; have c33x := Rc.cell_le hx hgl c33; go_simp; (first | (fail) | ((try go_bits); (try go_simp); (try rfl))))); go_simp; refine hK _ ?_; clear hK K)
      refine Rc.r_str rfl rfl 28 9 _ rfl 5 Tryd.underlying9 Tryd.underlying28 Tryd.underlying5 _ _ (Z) rfl (fun x hx => HSUB.out.below (Rc.undrew hx)) ?_; intro K hK; go_simp; refine hK _ ?_; clear hK K
      iterate 1 (refine Rc.rK rfl rfl ?_; intro K hK; apply Exists.intro; refine ⟨?_, ?_⟩; (focus (intro x hx;  go_simp; (first | (fail) | ((try go_bits); (try go_simp); (try rfl))))); go_simp; refine hK _ ?_; clear hK K)
      refine Rc.r_str rfl rfl 28 9 _ rfl 5 Tryd.underlying9 Tryd.underlying28 Tryd.underlying5 _ _ (Y) rfl (fun x hx => Rd_of_row (Rg.below_row (Rc.undrew hx) (lt_of_heap HGA.out) HGA.out) HPL.out (by decide)) ?_; intro K hK; go_simp; refine hK _ ?_; clear hK K
      refine Rc.fK rfl rfl rfl rfl ?_ ?_
      · intro x Fs hx hle hg K hK
        go_wp2_with fail
        refine (reftext_any l (ep f k) Z Y h HZL.out HPL.out x).mono ?_
        rintro e x' ⟨rfl, hb⟩
        rw [← HTE.out]
        go_wp2_with fail
        exact hK Rc.dflt x' hb (fun _ _ _ _ => trivial)
      intro K hK; go_simp; refine hK _ ?_; clear hK K
      refine Rc.fK rfl rfl rfl rfl ?_ ?_
      · intro x Fs hx hle hg K hK
        have hlit := Rd_lit x #[.string ⟨T.toArray⟩] 9 1 1 rfl (by decide)
        go_wp2_with fail
        exact hK ⟨some ⟨x.heap.size, 0, none⟩, 1, undef⟩ _ ((Below.refl _ _).alloc (Nat.le_refl _) _) fun F y hF hy => hlit.keeps hy (fun k hk => .inr (by cases hk; exact hF _ (Nat.le_refl _) (by simp)))
      intro K hK; go_simp; refine hK _ ?_; clear hK K
      refine Rc.done fun x Fs hx hle hg => ?_
      have HLIT : Hid (Rd x 1 (.slice (p 18).q 1 (p 18).c) 1 [.string ⟨T.toArray⟩]) := Lib.hid hg.1
      have HBX : Hid (Below wr.heap.size wr x) := Lib.hid (Rc.undrew hx)
      have HOX := Lib.hid (HOWN.out.below HBX.out)
      have HGX := Lib.hid (Rp.row_le HBX.out HGA.out)
      have hszx : wa.heap.size ≤ x.heap.size := Nat.le_trans HG1'.out.size HBX.out.size
      clear hx hle hg c0 c33 hgl hbl hbll
      go_wp2_with (at_builtin; go_must (refine app_ow rfl _ _ 46 46 rfl wa.heap.size 9 i0 (.string ⟨#[]⟩) 1 16 Tryd.underlying46 hi hz0 hz1 hz2 rfl _ _ _ rfl HOX.out _ _ _ rfl (Rd.src Tryd.underlying46 HLIT.out (fun u hu => by simp at hu; subst hu; rfl)) (by unfold maxLen; omega) (by omega) hszx ?_); go_must (intro v3 w3 how3 hg3); go_must (obtain ⟨q3, c3, rfl⟩ := Ow_form how3))
      refine NoPanic.normal ?_
      have hg3 : x.grownBy w3 (Value.slice qo k co).ownBlock := hg3
      have HGR := Lib.hid hg3
      have hne : (Value.slice qo k co).ownBlock = none ∨ (Value.slice qo k co).ownBlock ≠ some ga := by
        cases hkk : (Value.slice qo k co).ownBlock with
        | none => exact .inl rfl
        | some j =>
          refine .inr fun he => ?_
          cases he
          have := (HOX.out.lt _ hkk).1
          have := HGL.out
          omega
      have hga3 : w3.heap[ga]? = some (.cells (bysA Y) 25 (0, 0)) := by
        rw [hg3.block ga (lt_of_heap HGX.out) (by
          rcases hne with h | h
          · rw [h]; intro e; cases e
          · exact fun e => h e.symm)]
        exact HGX.out
      have HG3 := Lib.hid hga3
      have HB3 : Hid (Below w.heap.size w w3) := Lib.hid ((HBR.out.trans (HBX.out.mono HBR.out.size)).grown hg3 (Nat.le_trans HBA.out.size hszx) (fun j hj => Nat.le_trans HBA.out.size (HOX.out.lt j hj).1))
      have HL3 : Hid (RdL w3 (.slice (some ⟨bl, ol, none⟩) L.length cl) L) := Lib.hid (HK.out.below HB3.out)
      obtain ⟨b3, o3, hqe3, hb3l, _, _, hload3⟩ := HL3.out.load hltL
      cases hqe3
      have HLD3 := Lib.hid (hload3 w3 (Below.refl _ _))
      have HHOW := Lib.hid how3
      clear hne hga3 hg3 how3 hload3 hb3l
      have hld3 := HLD3.out
      rw [← HPN.out, show prv a L (k + 1) = L.getD k [] from rfl] at HIX HXL
      have HLD3 := Lib.hid hld3
      clear hld3
      obtain ⟨X3, hX3⟩ : ∃ X3, X3 = L.getD k [] := ⟨_, rfl⟩
      rw [← hX3] at HLD3 HIX HXL
      have HX3 := Lib.hid hX3
      clear hX3
      go_wp2_with (first | (refine l_load rfl _ _ rfl _ HLD3.out ?_) | (refine Rg.store_row rfl 25 _ _ rfl ga rfl 25 (bysA Y) (bysA X3) rfl HG3.out HIX.out (by rw [bysA_size, bysA_size, HXL.out, HPL.out]) (bysA_one _) ?_))
      have hsg := grownBy_setRow w3 ga (bysA X3)
      have hga4 := setRow_heap w3 ga _ (bysA X3) _ _ HG3.out
      refine ⟨⟨k + 1, q3, c3, by omega, by go_num, rfl, ?_, ?_, ?_⟩, by simp [intOf]; omega⟩
      · rw [HSX.out, strs_append]
        refine HHOW.out.kept hsg ?_
        cases hkk : (Value.slice q3 (k + 1) c3).ownBlock with
        | none => exact .inl rfl
        | some j =>
          refine .inr fun he => ?_
          cases he
          have := (HHOW.out.lt _ hkk).1
          have := HGL.out
          omega
      · refine ⟨hsg.os.trans (HGR.out.os.trans (HBX.out.os.trans HG1'.out.os)), hsg.tape.trans (HGR.out.tape.trans (HBX.out.tape.trans HG1'.out.tape)), hsg.output.trans (HGR.out.output.trans (HBX.out.output.trans HG1'.out.output)), Nat.le_trans hszx (Nat.le_trans HGR.out.size hsg.size), fun j hj hne => ?_⟩
        have h1 : j < wr.heap.size := Nat.lt_of_lt_of_le hj HG1'.out.size
        have h2 : j < x.heap.size := Nat.lt_of_lt_of_le hj hszx
        rw [hsg.block j (Nat.lt_of_lt_of_le h2 HGR.out.size) hne, HGR.out.block j h2 (fun e => by have := (HOX.out.lt j e.symm).1; omega), HBX.out.block j h1, HG1'.out.block j hj hne]
      · rw [show prv a L (k + 1) = X3 by rw [HX3.out]; rfl]
        exact hga4
    · obtain rfl : k = R.length := by omega
      go_wp2_with fail
      go_ret
      exact ⟨_, rfl, HOWN.out.base_le HBA.out.size, HBR.out⟩
end Ref
end Go.Proofs.YtmcjjionfmdioaaDoor

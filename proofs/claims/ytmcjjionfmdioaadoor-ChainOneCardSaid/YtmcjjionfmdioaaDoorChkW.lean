/- The walk of chain.Check. -/
import Derived.Test.YtmcjjionfmdioaaDoorChk
namespace Go.Proofs.YtmcjjionfmdioaaDoor
open Go.RowKit Bits Mem Sha
namespace Ref
set_option maxRecDepth 100000 in
set_option maxHeartbeats 4000000 in
theorem check_any (q : Option Addr) (c : Nat) (l : List UInt8) (f : Int) (a : List UInt8) (qr ql : Option Addr) (cr cl : Nat) (R L : List (List UInt8)) (w : World) (hS : Sha.Tabs w) (hl : Rd w 1 (.slice q l.length c) l.length (bys l)) (h : l.length ≤ 1000000) (ha : a.length = 32)
    (hr : RdL w (.slice qr R.length cr) R) (hL : RdL w (.slice ql L.length cl) L) :
    Calls Tryd.prog 42 #[.slice q l.length c, .int .i64 f, .agg (bysA a), .slice qr R.length cr, .slice ql L.length cl] w fun e w' => e = .returned (.int .i64 (chk l f a R L)) ∧ Below w.heap.size w w' := by
  obtain ⟨wz, hwz⟩ : ∃ wz, wz = w.alloc (.cells (bysA a) 25) := ⟨_, rfl⟩
  have hbz : Below w.heap.size w wz := by rw [hwz]; exact (Below.refl _ _).alloc (Nat.le_refl _) _
  have hgz : wz.heap[w.heap.size]? = some (.cells (bysA a) 25 (0, 0)) := by rw [hwz]; exact Rg.heap_alloc_at w _ _ rfl
  have hcl := Rd_cap hL.2
  have hcr := Rd_cap hr.2
  unfold maxLen at hcl hcr
  have HS := Lib.hid hS
  have HL := Lib.hid hl
  have HA := Lib.hid ha
  have HR := Lib.hid hr
  have HK := Lib.hid hL
  have HWZ := Lib.hid hwz
  have HBZ := Lib.hid hbz
  have HGZ := Lib.hid hgz
  clear hS hl ha hr hL hwz hbz hgz
  by_cases hlen : R.length = L.length
  · have hne : ((R.length : Int) != (L.length : Int)) = false := by rw [hlen]; simp
    have HLEN := Lib.hid hlen
    clear hlen
    go_enter Tryd.func42, Tryd.ntmps42
    go_wp2_with fail
    rw [← HWZ.out]
    go_loopw [20] (fun i wr => ∃ k : Nat, k ≤ L.length ∧ i = .int .i64 k ∧ (∀ j, j < k → okAt l f a R L j = true) ∧ wr.heap[w.heap.size]? = some (.cells (bysA (prv a L k)) 25 (0, 0)) ∧ Below w.heap.size w wr) (fun i _ => L.length - (intOf i).toNat)
    case atStart => exact ⟨0, Nat.zero_le _, rfl, fun _ h => by omega, HGZ.out, HBZ.out⟩
    case round =>
      obtain ⟨k, hk, rfl, hok, hga, hbr⟩ := hrel
      have HOK := Lib.hid hok
      have HGA := Lib.hid hga
      have HBR := Lib.hid hbr
      have HPL := Lib.hid (prv_length HA.out HK.out.1 hk)
      clear hok hga hbr
      by_cases hlt : k < L.length
      · have hltI : (k : Int) < L.length := by omega
        have hltR : k < R.length := HLEN.out ▸ hlt
        have hltRI : (k : Int) < R.length := by omega
        have HRL : Hid (RdL wr (.slice ql L.length cl) L) := Lib.hid (HK.out.below HBR.out)
        have HRR : Hid (RdL wr (.slice qr R.length cr) R) := Lib.hid (HR.out.below HBR.out)
        obtain ⟨bl, ol, hqe, hbl, _, _, hloadl⟩ := HRL.out.load hlt
        obtain ⟨br, or, hqe', hbr', _, _, hloadr⟩ := HRR.out.load (HLEN.out ▸ hlt)
        subst hqe hqe'
        have HLL := Lib.hid hloadl
        have HLR := Lib.hid hloadr
        have HXL := Lib.hid (HK.out.1.getD hlt)
        have HZL := Lib.hid (HR.out.1.getD (HLEN.out ▸ hlt : k < R.length))
        have HOKE := Lib.hid (show okAt l f a R L k = (L.getD k [] == nextLink l (ep f k) (R.getD k []) (prv a L k)) from rfl)
        have HPN := Lib.hid (show prv a L (k + 1) = L.getD k [] from rfl)
        have HNL := Lib.hid (nextLink_length l (ep f k) (R.getD k []) (prv a L k))
        obtain ⟨X, hX⟩ : ∃ X, X = L.getD k [] := ⟨_, rfl⟩
        obtain ⟨Z, hZ⟩ : ∃ Z, Z = R.getD k [] := ⟨_, rfl⟩
        obtain ⟨Y, hY⟩ : ∃ Y, Y = prv a L k := ⟨_, rfl⟩
        obtain ⟨N, hN⟩ : ∃ N, N = nextLink l (ep f k) (R.getD k []) (prv a L k) := ⟨_, rfl⟩
        have HNE : Hid (N = nextLink l (ep f k) Z Y) := Lib.hid (by rw [hN, hZ, hY])
        rw [← hN, ← hX] at HOKE
        rw [← hX] at HLL HXL HPN
        rw [← hZ] at HLR HZL
        rw [← hY] at HGA HPL
        rw [← hN] at HNL
        have HIX : Hid ((Tryd.prog.info? 25).map (·.size) = some (bysA X).size) := Lib.hid (by rw [bysA_size, HXL.out]; exact info32)
        clear hloadl hloadr hX hY hZ hN
        go_wp2_with (first | (refine l_load rfl _ _ rfl _ (HLL.out _ (Below.refl _ _)) ?_) | (refine Rg.store_row_new rfl 25 _ _ rfl wr.heap.size rfl rfl 25 _ (bysA X) rfl HIX.out (by rw [bysA_size, HXL.out]; rfl) (bysA_one _) ?_))
        obtain ⟨wa, hwa⟩ : ∃ wa, wa = wr.alloc (.cells (bysA X) 25) := ⟨_, rfl⟩
        have hba : Below wr.heap.size wr wa := by rw [hwa]; exact (Below.refl _ _).alloc (Nat.le_refl _) _
        have hgx : wa.heap[wr.heap.size]? = some (.cells (bysA X) 25 (0, 0)) := by rw [hwa]; exact Rg.heap_alloc_at _ _ _ rfl
        obtain ⟨gx, hge⟩ : ∃ gx, gx = wr.heap.size := ⟨_, rfl⟩
        have HGX : Hid (wa.heap[gx]? = some (.cells (bysA X) 25 (0, 0))) := Lib.hid (by rw [hge]; exact hgx)
        have HGA2 := Lib.hid (Rp.row_le hba HGA.out)
        have HBA := Lib.hid hba
        have HBW := Lib.hid (HBR.out.trans (hba.mono HBR.out.size))
        rw [← hwa, ← hge]
        clear hwa hba hgx hge hbl hbr'
        refine Rc.region (wa.heap.size) 14 [Rc.F 13 (fun _ => .agg (bysA N)) (fun _ _ _ => True)] [] (by kernel_rfl) (Nat.le_refl _) (by kernel_rfl) ?_; intro p; simp only [List.take_succ_cons, List.take_zero, List.take_nil, List.drop_succ_cons, List.drop_zero, List.drop_nil]
        refine Rc.r_load rfl rfl _ _ rfl (.agg (bysA X)) (fun x hx => load_mid (l := []) (r := X) (s := []) (o := 0) (by simpa using (Rg.below_row hx (lt_of_heap HGX.out) HGX.out)) rfl HXL.out) ?_; intro K hK; go_simp; refine hK _ ?_; clear hK K
        iterate 10 (refine Rc.rK rfl rfl ?_; intro K hK; apply Exists.intro; refine ⟨?_, ?_⟩; (focus (intro x hx;  go_simp; (first | (fail) | ((try go_bits); (try go_simp); (try rfl))))); go_simp; refine hK _ ?_; clear hK K)
        refine Rc.r_load rfl rfl _ _ rfl (.agg (bysA Z)) (fun x hx => HLR.out x (HBA.out.trans ((Rc.undrew hx).mono HBA.out.size))) ?_; intro K hK; go_simp; refine hK _ ?_; clear hK K
        refine Rc.r_load rfl rfl _ _ rfl (.agg (bysA Y)) (fun x hx => load_mid (l := []) (r := Y) (s := []) (o := 0) (by simpa using (Rg.below_row hx (lt_of_heap HGA2.out) HGA2.out)) rfl HPL.out) ?_; intro K hK; go_simp; refine hK _ ?_; clear hK K
        refine Rc.fK rfl rfl rfl rfl ?_ ?_
        · intro x Fs hx hle hg K hK
          have hbx := HBW.out.trans ((Rc.undrew hx).mono HBW.out.size)
          go_wp2_with fail
          refine (next_any q c l (ep f k) Z Y x (HS.out.below hbx) (HL.out.below hbx) h HZL.out HPL.out).mono ?_
          rintro e x' ⟨rfl, hb⟩
          rw [← HNE.out]
          go_wp2_with fail
          exact hK Rc.dflt x' hb (fun _ _ _ _ => trivial)
        intro K hK; go_simp; refine hK _ ?_; clear hK K
        refine Rc.done fun x Fs hx hle hg => ?_
        have HX := Lib.hid (Rc.undrew hx)
        have hxl := HXL.out
        have hnl := HNL.out
        clear hx hle hg
        cases heq : (X == N) with
        | true =>
          have HRX := Lib.hid (Rp.row_le HX.out HGX.out)
          have HRA := Lib.hid (Rp.row_le HX.out HGA2.out)
          go_wp2_with fail
          refine NoPanic.normal ?_
          go_wp2_with (first | (refine wpList_load_row rfl 25 _ rfl gx rfl 25 (bysA X) (0, 0) _ HRX.out Tryd.underlying25 rfl HIX.out ?_) | (refine Rg.store_row rfl 25 _ _ rfl w.heap.size rfl 25 (bysA Y) (bysA X) rfl HRA.out HIX.out (by rw [bysA_size, bysA_size, HXL.out, HPL.out]) (bysA_one _) ?_))
          refine ⟨⟨k + 1, by omega, by go_num, fun j hj => ?_, ?_, ?_⟩, by simp [intOf]; omega⟩
          · by_cases hjk : j = k
            · subst hjk; rw [HOKE.out]; exact heq
            · exact HOK.out j (by omega)
          · rw [HPN.out]; exact setRow_heap x _ _ _ _ _ HRA.out
          · exact Rg.below_setRow (HBW.out.trans (HX.out.mono HBW.out.size)) (Nat.le_refl _) _
        | false =>
          go_wp2_with fail
          refine NoPanic.normal ?_
          have HC := Lib.hid (chk_bad (id := l) (f := f) (a := a) (R := R) (L := L) HLEN.out hlt (HOKE.out.trans heq))
          go_wp2_with fail
          go_ret
          exact ⟨by rw [HC.out]; rfl, HBW.out.trans (HX.out.mono HBW.out.size)⟩
      · obtain rfl : k = L.length := by omega
        have HC := Lib.hid (chk_ok (id := l) (f := f) (a := a) HLEN.out HOK.out)
        go_wp2_with fail
        go_ret
        exact ⟨by rw [HC.out]; rfl, HBR.out⟩
  · have hne : (R.length : Int) ≠ (L.length : Int) := by omega
    have HC := Lib.hid (chk_len (id := l) (f := f) (a := a) hlen)
    go_enter Tryd.func42, Tryd.ntmps42
    go_wp2_with fail
    go_ret
    exact ⟨by rw [HC.out]; rfl, (Below.refl _ _).alloc (Nat.le_refl _) _⟩
end Ref
end Go.Proofs.YtmcjjionfmdioaaDoor

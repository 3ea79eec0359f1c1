/- The walk of custumalref18.Check. -/
import Derived.Test.YtmcjjionfmdioaaDoorTexts16
namespace Go.Proofs.YtmcjjionfmdioaaDoor
open Go.RowKit Bits Mem Sha
namespace Ref
set_option maxRecDepth 100000 in
set_option maxHeartbeats 4000000 in
theorem refcheck_any (l : List UInt8) (f : Int) (a : List UInt8) (qr ql : Option Addr) (cr cl : Nat) (R L : List (List UInt8)) (w : World) (hR : Ref.Tabs w) (h : l.length ≤ 1000000) (ha : a.length = 32)
    (hr : Rd w 1 (.slice qr R.length cr) R.length (strs R)) (hL : Rd w 1 (.slice ql L.length cl) L.length (strs L)) (hR32 : All32 R) (hL32 : All32 L) :
    Calls Tryd.prog 43 #[.string ⟨l.toArray⟩, .int .i64 f, .string ⟨a.toArray⟩, .slice qr R.length cr, .slice ql L.length cl] w fun e w' => e = .returned (.int .i64 (chk l f a R L)) ∧ Below w.heap.size w w' := by
  have hcl := Rd_cap hL
  have hcr := Rd_cap hr
  unfold maxLen at hcl hcr
  have HT := Lib.hid hR
  have HA := Lib.hid ha
  have HR := Lib.hid hr
  have HK := Lib.hid hL
  have HR32 := Lib.hid hR32
  have HL32 := Lib.hid hL32
  clear hR ha hr hL hR32 hL32
  by_cases hlen : R.length = L.length
  · have hne : ((R.length : Int) != (L.length : Int)) = false := by rw [hlen]; simp
    have HLEN := Lib.hid hlen
    clear hlen
    go_enter Tryd.func43, Tryd.ntmps43
    go_wp2_with fail
    go_loopw [11, 2] (fun i t wr => ∃ k : Nat, k ≤ L.length ∧ i = .int .i64 k ∧ t = .string ⟨(prv a L k).toArray⟩ ∧ (∀ j, j < k → okAt l f a R L j = true) ∧ Below w.heap.size w wr) (fun i _ _ => L.length - (intOf i).toNat)
    case atStart => exact ⟨0, Nat.zero_le _, rfl, rfl, fun _ h => by omega, Below.refl _ _⟩
    case round =>
      obtain ⟨k, hk, rfl, rfl, hok, hbr⟩ := hrel
      have HOK := Lib.hid hok
      have HBR := Lib.hid hbr
      have HPL := Lib.hid (prv_length HA.out HL32.out hk)
      clear hok hbr
      by_cases hlt : k < L.length
      · have hltI : (k : Int) < L.length := by omega
        have hltR : k < R.length := HLEN.out ▸ hlt
        have hltRI : (k : Int) < R.length := by omega
        obtain ⟨bl, ol, hqe, hbl, _, _, hcl2⟩ := Rd_lt (HK.out.below HBR.out) (by omega)
        obtain ⟨br, or, hqe', hbr, _, _, hcr2⟩ := Rd_lt (HR.out.below HBR.out) (by omega)
        subst hqe hqe'
        have ccl := hcl2 k _ (strs_get hlt)
        have ccr := hcr2 k _ (strs_get hltR)
        have HXL := Lib.hid (HL32.out.getD hlt)
        have HZL := Lib.hid (HR32.out.getD hltR)
        have HOKE := Lib.hid (show okAt l f a R L k = (L.getD k [] == nextLink l (ep f k) (R.getD k []) (prv a L k)) from rfl)
        have HPN := Lib.hid (show prv a L (k + 1) = L.getD k [] from rfl)
        obtain ⟨X, hX⟩ : ∃ X, X = L.getD k [] := ⟨_, rfl⟩
        obtain ⟨Z, hZ⟩ : ∃ Z, Z = R.getD k [] := ⟨_, rfl⟩
        obtain ⟨Y, hY⟩ : ∃ Y, Y = prv a L k := ⟨_, rfl⟩
        obtain ⟨N, hN⟩ : ∃ N, N = nextLink l (ep f k) (R.getD k []) (prv a L k) := ⟨_, rfl⟩
        have HNE : Hid (N = sha (linkText l (ep f k) Z Y)) := Lib.hid (by rw [hN, hZ, hY]; rfl)
        rw [← hN, ← hX] at HOKE
        rw [← hX] at HXL HPN ccl
        rw [← hZ] at HZL ccr
        rw [← hY] at HPL ⊢
        clear hcl2 hcr2 hX hY hZ hN
        have HTL := Lib.hid (linkText_length l (ep f k) Z Y HZL.out HPL.out)
        obtain ⟨T, hT⟩ : ∃ T, T = linkText l (ep f k) Z Y := ⟨_, rfl⟩
        have HTE := Lib.hid hT
        rw [← hT] at HTL HNE
        clear hT
        go_wp2_with fail
        refine Rc.region (wr.heap.size) 18 [Rc.F 16 (fun _ => .string ⟨T.toArray⟩) (fun _ _ _ => True), Rc.F 17 (fun _ => .string ⟨N.toArray⟩) (fun _ _ _ => True)] [] (by kernel_rfl) (Nat.le_refl _) (by kernel_rfl) ?_; intro p; simp only [List.take_succ_cons, List.take_zero, List.take_nil, List.drop_succ_cons, List.drop_zero, List.drop_nil]
        repeat (refine Rc.rK rfl rfl ?_; intro K hK; apply Exists.intro; refine ⟨?_, ?_⟩; (focus (intro x hx; have ccl' := Rc.cell_le hx hbl ccl; have ccr' := Rc.cell_le hx hbr ccr; go_simp; (first | (fail) | ((try go_bits); (try go_simp); (try rfl))))); go_simp; refine hK _ ?_; clear hK K)
        refine Rc.fK rfl rfl rfl rfl ?_ ?_
        · intro x Fs hx hle hg K hK
          go_wp2_with fail
          refine (reftext_any l (ep f k) Z Y h HZL.out HPL.out x).mono ?_
          rintro e x' ⟨rfl, hb⟩
          rw [← HTE.out]
          go_wp2_with fail
          exact hK Rc.dflt x' hb (fun _ _ _ _ => trivial)
        intro K hK; go_simp; refine hK _ ?_; clear hK K
        refine Rc.fK rfl rfl rfl rfl ?_ ?_
        · intro x Fs hx hle hg K hK
          have hbx := HBR.out.trans ((Rc.undrew hx).mono HBR.out.size)
          go_wp2_with fail
          refine (sum_any ⟨T.toArray⟩ T (by rfl) x (HT.out.below hbx) (by have := HTL.out; omega)).mono ?_
          rintro e x' ⟨rfl, hb⟩
          rw [← HNE.out]
          go_wp2_with fail
          exact hK Rc.dflt x' hb (fun _ _ _ _ => trivial)
        intro K hK; go_simp; refine hK _ ?_; clear hK K
        refine Rc.done fun x Fs hx hle hg => ?_
        have HX := Lib.hid (Rc.undrew hx)
        have ccl' := Rc.cell_le hx hbl ccl
        clear hx hle hg ccr ccl
        cases heq : (X == N) with
        | true =>
          have hXN : X = N := by simpa using heq
          go_wp2_with fail
          refine NoPanic.normal ?_
          go_wp2_with fail
          refine ⟨⟨k + 1, by omega, by go_num, by rw [HPN.out, hXN], fun j hj => ?_, ?_⟩, by simp [intOf]; omega⟩
          · by_cases hjk : j = k
            · subst hjk; rw [HOKE.out]; exact heq
            · exact HOK.out j (by omega)
          · exact HBR.out.trans (HX.out.mono HBR.out.size)
        | false =>
          have hXN : X ≠ N := by simpa using heq
          go_wp2_with fail
          refine NoPanic.normal ?_
          have HC := Lib.hid (chk_bad (id := l) (f := f) (a := a) (R := R) (L := L) HLEN.out hlt (HOKE.out.trans heq))
          go_wp2_with fail
          go_ret
          exact ⟨by rw [HC.out]; rfl, HBR.out.trans (HX.out.mono HBR.out.size)⟩
      · obtain rfl : k = L.length := by omega
        have HC := Lib.hid (chk_ok (id := l) (f := f) (a := a) HLEN.out HOK.out)
        go_wp2_with fail
        go_ret
        exact ⟨by rw [HC.out]; rfl, HBR.out⟩
  · have hne : (R.length : Int) ≠ (L.length : Int) := by omega
    have HC := Lib.hid (chk_len (id := l) (f := f) (a := a) hlen)
    go_enter Tryd.func43, Tryd.ntmps43
    go_wp2_with fail
    go_ret
    exact ⟨by rw [HC.out]; rfl, Below.refl _ _⟩
end Ref
end Go.Proofs.YtmcjjionfmdioaaDoor

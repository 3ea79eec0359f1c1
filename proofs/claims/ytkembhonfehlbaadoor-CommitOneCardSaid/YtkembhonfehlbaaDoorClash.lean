/- The walks of custumalref16.Same and custumalref15.Clash. -/
import Derived.Test.YtkembhonfehlbaaDoorTexts16
namespace Go.Proofs.YtkembhonfehlbaaDoor
open Go.RowKit Bits Mem Sha
namespace Ref
def clashAt (x : List UInt8) (B : List (List UInt8)) (k : Nat) : Bool := x != B.getD k [] && sha x == sha (B.getD k [])
def clash (A B : List (List UInt8)) : Bool := (List.range A.length).any fun i => (List.range B.length).any fun k => clashAt (A.getD i []) B k
section
variable {A B : List (List UInt8)}
theorem clash_yes {i k : Nat} (hi : i < A.length) (hk : k < B.length) (h : clashAt (A.getD i []) B k = true) : clash A B = true :=
  List.any_eq_true.2 ⟨i, List.mem_range.2 hi, List.any_eq_true.2 ⟨k, List.mem_range.2 hk, h⟩⟩
theorem clash_no (h : ∀ i, i < A.length → ∀ k, k < B.length → clashAt (A.getD i []) B k = false) : clash A B = false := by
  cases hc : clash A B with
  | false => rfl
  | true =>
    obtain ⟨i, hi, h1⟩ := List.any_eq_true.1 hc
    obtain ⟨k, hk, h2⟩ := List.any_eq_true.1 h1
    rw [h i (List.mem_range.1 hi) k (List.mem_range.1 hk)] at h2
    cases h2
theorem clash_iff : clash A B = true ↔ ∃ x ∈ A, ∃ y ∈ B, x ≠ y ∧ sha x = sha y := by
  constructor
  · intro hc
    obtain ⟨i, hi, h1⟩ := List.any_eq_true.1 hc
    obtain ⟨k, hk, h2⟩ := List.any_eq_true.1 h1
    have hi := List.mem_range.1 hi
    have hk := List.mem_range.1 hk
    have ea : A.getD i [] = A[i] := by simp [List.getD, hi]
    have eb : B.getD k [] = B[k] := by simp [List.getD, hk]
    unfold clashAt at h2
    rw [ea, eb] at h2
    simp at h2
    exact ⟨_, List.getElem_mem hi, _, List.getElem_mem hk, h2.1, h2.2⟩
  · rintro ⟨x, hx, y, hy, hne, hs⟩
    obtain ⟨i, hi, rfl⟩ := List.getElem_of_mem hx
    obtain ⟨k, hk, rfl⟩ := List.getElem_of_mem hy
    refine clash_yes hi hk ?_
    unfold clashAt
    simp [List.getD, hi, hk, hne, hs]
end
set_option maxRecDepth 100000 in
set_option maxHeartbeats 4000000 in
theorem clash_any (qa qb : Option Addr) (ca cb : Nat) (A B : List (List UInt8)) (w : World) (hR : Ref.Tabs w) (ha : Rd w 1 (.slice qa A.length ca) A.length (strs A)) (hb : Rd w 1 (.slice qb B.length cb) B.length (strs B))
    (hA : ∀ x ∈ A, x.length ≤ 70368744177664) (hB : ∀ x ∈ B, x.length ≤ 70368744177664) :
    Calls Tryd.prog 18 #[.slice qa A.length ca, .slice qb B.length cb] w fun e w' => e = .returned (.bool (clash A B)) ∧ Below w.heap.size w w' := by
  have hca := Rd_cap ha
  have hcb := Rd_cap hb
  unfold maxLen at hca hcb
  have HT := Lib.hid hR
  have HA := Lib.hid ha
  have HB := Lib.hid hb
  have HAL : Hid (∀ i, i < A.length → (A.getD i []).length ≤ 70368744177664) := Lib.hid (fun i hi => by rw [show A.getD i [] = A[i] by simp [List.getD, hi]]; exact hA _ (List.getElem_mem hi))
  have HBL : Hid (∀ i, i < B.length → (B.getD i []).length ≤ 70368744177664) := Lib.hid (fun i hi => by rw [show B.getD i [] = B[i] by simp [List.getD, hi]]; exact hB _ (List.getElem_mem hi))
  clear hR ha hb hA hB
  go_enter Tryd.func18, Tryd.ntmps18
  go_wp2_with fail
  go_loopw [5] (fun i wr => ∃ k : Nat, k ≤ A.length ∧ i = .int .i64 k ∧ (∀ j, j < k → ∀ m, m < B.length → clashAt (A.getD j []) B m = false) ∧ Below w.heap.size w wr) (fun i _ => A.length - (intOf i).toNat)
  case atStart => exact ⟨0, Nat.zero_le _, rfl, fun _ h => by omega, Below.refl _ _⟩
  case round =>
    obtain ⟨i, hi, rfl, hno, hbr⟩ := hrel
    have HNO := Lib.hid hno
    have HBR := Lib.hid hbr
    clear hno hbr
    by_cases hlt : i < A.length
    · have hltI : (i : Int) < A.length := by omega
      obtain ⟨bl, ol, hqe, hbl, _, _, hcl2⟩ := Rd_lt HA.out (by omega)
      subst hqe
      have HCA := Lib.hid (hcl2 i _ (strs_get hlt))
      have hbw : bl < w.heap.size := hbl
      obtain ⟨X, hX⟩ : ∃ X, X = A.getD i [] := ⟨_, rfl⟩
      have HXE := Lib.hid hX
      rw [← hX] at HCA
      have HXL : Hid (X.length ≤ 70368744177664) := Lib.hid (by rw [hX]; exact HAL.out i hlt)
      clear hcl2 hX hbl
      go_wp2_with fail
      go_loopw [6] (fun t wi => ∃ k : Nat, k ≤ B.length ∧ t = .int .i64 k ∧ (∀ m, m < k → clashAt X B m = false) ∧ Below w.heap.size w wi) (fun t _ => B.length - (intOf t).toNat)
      case atStart => exact ⟨0, Nat.zero_le _, rfl, fun _ h => by omega, HBR.out⟩
      case round =>
        obtain ⟨k, hk, rfl, hno2, hbi⟩ := hrel
        have HNO2 := Lib.hid hno2
        have HBI := Lib.hid hbi
        clear hno2 hbi
        by_cases hlt2 : k < B.length
        · have hlt2I : (k : Int) < B.length := by omega
          obtain ⟨br, or, hqe', hbr, _, _, hcr2⟩ := Rd_lt (HB.out.below HBI.out) (by omega)
          subst hqe'
          have ccb := hcr2 k _ (strs_get hlt2)
          have cca := (HBI.out.cell (p := ⟨bl, ol + i, none⟩) hbw).trans HCA.out
          have hbwr : bl < wr.heap.size := Nat.lt_of_lt_of_le hbw HBI.out.size
          have HCD := Lib.hid (show clashAt X B k = (X != B.getD k [] && sha X == sha (B.getD k [])) from rfl)
          have HYL := Lib.hid (HBL.out k hlt2)
          obtain ⟨Y, hY⟩ : ∃ Y, Y = B.getD k [] := ⟨_, rfl⟩
          rw [← hY] at ccb HCD HYL
          clear hcr2 hY
          have HWR : Hid (Below w.heap.size w wr) := Lib.hid HBI.out
          cases he : (X == Y) with
          | true =>
            have hXY : X = Y := by simpa using he
            have HC0 : Hid (clashAt X B k = false) := Lib.hid (by rw [HCD.out, bne, he]; rfl)
            go_wp2_with fail
            refine Rc.region (wr.heap.size) 22 [] [] (by kernel_rfl) (Nat.le_refl _) (by kernel_rfl) ?_; intro p; simp only [List.take_succ_cons, List.take_zero, List.take_nil, List.drop_succ_cons, List.drop_zero, List.drop_nil]
            iterate 10 (refine Rc.rK rfl rfl ?_; intro K hK; apply Exists.intro; refine ⟨?_, ?_⟩; (focus (intro x hx; have ccb' := Rc.cell_le hx hbr ccb; have cca' := Rc.cell_le hx hbwr cca; go_simp; (first | (fail) | ((try go_bits); (try go_simp); (try rfl))))); go_simp; refine hK _ ?_; clear hK K)
            iterate 11 (refine Rc.rSkip rfl rfl ?_; intro K hK; go_simp; refine hK _ ?_; clear hK K)
            iterate 1 (refine Rc.rK rfl rfl ?_; intro K hK; apply Exists.intro; refine ⟨?_, ?_⟩; (focus (intro x hx;  go_simp; (first | (fail) | ((try go_bits); (try go_simp); (try rfl))))); go_simp; refine hK _ ?_; clear hK K)
            refine Rc.done fun x Fs hx hle hg => ?_
            go_wp2_with fail
            refine NoPanic.normal ?_
            have HX := Lib.hid (HBI.out.trans ((Rc.undrew hx).mono HBI.out.size))
            clear hx hle hg cca ccb
            go_wp2_with fail
            refine ⟨⟨k + 1, by omega, by go_num, fun m hm => ?_, HX.out⟩, by simp [intOf]; omega⟩
            by_cases hmk : m = k
            · rw [hmk]; exact HC0.out
            · exact HNO2.out m (by omega)
          | false =>
            have hXY : X ≠ Y := by simpa using he
            obtain ⟨SX, hSX⟩ : ∃ SX, SX = sha X := ⟨_, rfl⟩
            obtain ⟨SY, hSY⟩ : ∃ SY, SY = sha Y := ⟨_, rfl⟩
            have HSX := Lib.hid hSX
            have HSY := Lib.hid hSY
            have HC0 : Hid (clashAt X B k = (SX == SY)) := Lib.hid (by rw [HCD.out, bne, he, hSX, hSY]; rfl)
            clear hSX hSY
            cases hs : (SX == SY) with
            | true =>
              have HSS : Hid (SX = SY) := Lib.hid (by simpa using hs)
              go_wp2_with fail
              refine Rc.region (wr.heap.size) 22 [Rc.F 14 (fun _ => .string ⟨SX.toArray⟩) (fun _ _ _ => True), Rc.F 19 (fun _ => .string ⟨SY.toArray⟩) (fun _ _ _ => True)] [] (by kernel_rfl) (Nat.le_refl _) (by kernel_rfl) ?_; intro p; simp only [List.take_succ_cons, List.take_zero, List.take_nil, List.drop_succ_cons, List.drop_zero, List.drop_nil]
              iterate 14 (refine Rc.rK rfl rfl ?_; intro K hK; apply Exists.intro; refine ⟨?_, ?_⟩; (focus (intro x hx; have ccb' := Rc.cell_le hx hbr ccb; have cca' := Rc.cell_le hx hbwr cca; go_simp; (first | (fail) | ((try go_bits); (try go_simp); (try rfl))))); go_simp; refine hK _ ?_; clear hK K)
              refine Rc.fK rfl rfl rfl rfl ?_ ?_
              · intro x Fs hx hle hg K hK
                have hbx := HBI.out.trans ((Rc.undrew hx).mono HBI.out.size)
                go_wp2_with fail
                refine (sum_any ⟨X.toArray⟩ X (by rfl) x (HT.out.below hbx) HXL.out).mono ?_
                rintro e x' ⟨rfl, hb⟩
                rw [← HSX.out]
                go_wp2_with fail
                exact hK Rc.dflt x' hb (fun _ _ _ _ => trivial)
              intro K hK; go_simp; refine hK _ ?_; clear hK K
              iterate 4 (refine Rc.rK rfl rfl ?_; intro K hK; apply Exists.intro; refine ⟨?_, ?_⟩; (focus (intro x hx; have ccb' := Rc.cell_le hx hbr ccb; have cca' := Rc.cell_le hx hbwr cca; go_simp; (first | (fail) | ((try go_bits); (try go_simp); (try rfl))))); go_simp; refine hK _ ?_; clear hK K)
              refine Rc.fK rfl rfl rfl rfl ?_ ?_
              · intro x Fs hx hle hg K hK
                have hbx := HBI.out.trans ((Rc.undrew hx).mono HBI.out.size)
                go_wp2_with fail
                refine (sum_any ⟨Y.toArray⟩ Y (by rfl) x (HT.out.below hbx) HYL.out).mono ?_
                rintro e x' ⟨rfl, hb⟩
                rw [← HSY.out]
                go_wp2_with fail
                exact hK Rc.dflt x' hb (fun _ _ _ _ => trivial)
              intro K hK; go_simp; refine hK _ ?_; clear hK K
              have hSS := HSS.out
              iterate 2 (refine Rc.rK rfl rfl ?_; intro K hK; apply Exists.intro; refine ⟨?_, ?_⟩; (focus (intro x hx;  go_simp; (first | (fail) | ((try go_bits); (try go_simp); (try rfl))))); go_simp; refine hK _ ?_; clear hK K)
              refine Rc.done fun x Fs hx hle hg => ?_
              go_wp2_with fail
              refine NoPanic.normal ?_
              have HX := Lib.hid (HBI.out.trans ((Rc.undrew hx).mono HBI.out.size))
              clear hx hle hg cca ccb
              go_wp2_with fail
              have HY := Lib.hid (clash_yes (A := A) (B := B) hlt hlt2 (by rw [← HXE.out, HC0.out, hs]))
              go_ret
              exact ⟨by rw [HY.out]; rfl, HX.out⟩
            | false =>
              have HSS : Hid (SX ≠ SY) := Lib.hid (by simpa using hs)
              go_wp2_with fail
              refine Rc.region (wr.heap.size) 22 [Rc.F 14 (fun _ => .string ⟨SX.toArray⟩) (fun _ _ _ => True), Rc.F 19 (fun _ => .string ⟨SY.toArray⟩) (fun _ _ _ => True)] [] (by kernel_rfl) (Nat.le_refl _) (by kernel_rfl) ?_; intro p; simp only [List.take_succ_cons, List.take_zero, List.take_nil, List.drop_succ_cons, List.drop_zero, List.drop_nil]
              iterate 14 (refine Rc.rK rfl rfl ?_; intro K hK; apply Exists.intro; refine ⟨?_, ?_⟩; (focus (intro x hx; have ccb' := Rc.cell_le hx hbr ccb; have cca' := Rc.cell_le hx hbwr cca; go_simp; (first | (fail) | ((try go_bits); (try go_simp); (try rfl))))); go_simp; refine hK _ ?_; clear hK K)
              refine Rc.fK rfl rfl rfl rfl ?_ ?_
              · intro x Fs hx hle hg K hK
                have hbx := HBI.out.trans ((Rc.undrew hx).mono HBI.out.size)
                go_wp2_with fail
                refine (sum_any ⟨X.toArray⟩ X (by rfl) x (HT.out.below hbx) HXL.out).mono ?_
                rintro e x' ⟨rfl, hb⟩
                rw [← HSX.out]
                go_wp2_with fail
                exact hK Rc.dflt x' hb (fun _ _ _ _ => trivial)
              intro K hK; go_simp; refine hK _ ?_; clear hK K
              iterate 4 (refine Rc.rK rfl rfl ?_; intro K hK; apply Exists.intro; refine ⟨?_, ?_⟩; (focus (intro x hx; have ccb' := Rc.cell_le hx hbr ccb; have cca' := Rc.cell_le hx hbwr cca; go_simp; (first | (fail) | ((try go_bits); (try go_simp); (try rfl))))); go_simp; refine hK _ ?_; clear hK K)
              refine Rc.fK rfl rfl rfl rfl ?_ ?_
              · intro x Fs hx hle hg K hK
                have hbx := HBI.out.trans ((Rc.undrew hx).mono HBI.out.size)
                go_wp2_with fail
                refine (sum_any ⟨Y.toArray⟩ Y (by rfl) x (HT.out.below hbx) HYL.out).mono ?_
                rintro e x' ⟨rfl, hb⟩
                rw [← HSY.out]
                go_wp2_with fail
                exact hK Rc.dflt x' hb (fun _ _ _ _ => trivial)
              intro K hK; go_simp; refine hK _ ?_; clear hK K
              have hSS := HSS.out
              iterate 2 (refine Rc.rK rfl rfl ?_; intro K hK; apply Exists.intro; refine ⟨?_, ?_⟩; (focus (intro x hx;  go_simp; (first | (fail) | ((try go_bits); (try go_simp); (try rfl))))); go_simp; refine hK _ ?_; clear hK K)
              refine Rc.done fun x Fs hx hle hg => ?_
              go_wp2_with fail
              refine NoPanic.normal ?_
              have HX := Lib.hid (HBI.out.trans ((Rc.undrew hx).mono HBI.out.size))
              clear hx hle hg cca ccb
              go_wp2_with fail
              refine ⟨⟨k + 1, by omega, by go_num, fun m hm => ?_, HX.out⟩, by simp [intOf]; omega⟩
              by_cases hmk : m = k
              · rw [hmk]; exact HC0.out.trans hs
              · exact HNO2.out m (by omega)
        · obtain rfl : k = B.length := by omega
          go_wp2_with fail
          refine ⟨⟨i + 1, by omega, by go_num, fun j hj => ?_, HBI.out⟩, by simp [intOf]; omega⟩
          by_cases hji : j = i
          · rw [hji, ← HXE.out]; exact HNO2.out
          · exact HNO.out j (by omega)
    · obtain rfl : i = A.length := by omega
      have HC := Lib.hid (clash_no HNO.out)
      go_wp2_with fail
      go_ret
      exact ⟨by rw [HC.out]; rfl, HBR.out⟩
/-- What Same tells. -/
theorem getD_ext : ∀ {A B : List (List UInt8)}, A.length = B.length → (∀ i, i < A.length → A.getD i [] = B.getD i []) → A = B
  | [], [], _, _ => rfl
  | a :: A, b :: B, hl, h => by
    have h0 := h 0 (by simp)
    have := getD_ext (A := A) (B := B) (by simpa using hl) (fun i hi => by have := h (i + 1) (by simpa using hi); simpa using this)
    simp only [List.getD_cons_zero] at h0
    rw [h0, this]
set_option maxRecDepth 100000 in
set_option maxHeartbeats 4000000 in
theorem same16_any (qa qb : Option Addr) (ca cb : Nat) (A B : List (List UInt8)) (w : World) (ha : Rd w 1 (.slice qa A.length ca) A.length (strs A)) (hb : Rd w 1 (.slice qb B.length cb) B.length (strs B)) :
    Calls Tryd.prog 41 #[.slice qa A.length ca, .slice qb B.length cb] w fun e w' => e = .returned (.bool (A == B)) ∧ Below w.heap.size w w' := by
  have hca := Rd_cap ha
  have hcb := Rd_cap hb
  unfold maxLen at hca hcb
  have HA := Lib.hid ha
  have HB := Lib.hid hb
  clear ha hb
  by_cases hlen : A.length = B.length
  · have hne : ((A.length : Int) != (B.length : Int)) = false := by rw [hlen]; simp
    have HLEN := Lib.hid hlen
    clear hlen
    go_enter Tryd.func41, Tryd.ntmps41
    go_wp2_with fail
    go_loopw [5] (fun i wr => ∃ k : Nat, k ≤ A.length ∧ i = .int .i64 k ∧ (∀ j, j < k → A.getD j [] = B.getD j []) ∧ Below w.heap.size w wr) (fun i _ => A.length - (intOf i).toNat)
    case atStart => exact ⟨0, Nat.zero_le _, rfl, fun _ h => by omega, Below.refl _ _⟩
    case round =>
      obtain ⟨k, hk, rfl, hsm, hbr⟩ := hrel
      have HSM := Lib.hid hsm
      have HBR := Lib.hid hbr
      clear hsm hbr
      by_cases hlt : k < A.length
      · have hltI : (k : Int) < A.length := by omega
        have hltB : k < B.length := HLEN.out ▸ hlt
        have hltBI : (k : Int) < B.length := by omega
        obtain ⟨bl, ol, hqe, hbl, _, _, hcl2⟩ := Rd_lt (HA.out.below HBR.out) (by omega)
        obtain ⟨br, or, hqe', hbr, _, _, hcr2⟩ := Rd_lt (HB.out.below HBR.out) (by omega)
        subst hqe hqe'
        have ccl := hcl2 k _ (strs_get hlt)
        have ccr := hcr2 k _ (strs_get hltB)
        have HXE := Lib.hid (Eq.refl (A.getD k []))
        obtain ⟨X, hX⟩ : ∃ X, X = A.getD k [] := ⟨_, rfl⟩
        obtain ⟨Y, hY⟩ : ∃ Y, Y = B.getD k [] := ⟨_, rfl⟩
        have HX := Lib.hid hX
        have HY := Lib.hid hY
        rw [← hX] at ccl
        rw [← hY] at ccr
        clear hcl2 hcr2 hX hY HXE
        cases heb : (X == Y) with
        | true =>
          have he : X = Y := by simpa using heb
          go_wp2_with fail
          refine Rc.region (wr.heap.size) 9 [] [] (by kernel_rfl) (Nat.le_refl _) (by kernel_rfl) ?_; intro p; simp only [List.take_succ_cons, List.take_zero, List.take_nil, List.drop_succ_cons, List.drop_zero, List.drop_nil]
          iterate 9 (refine Rc.rK rfl rfl ?_; intro K hK; apply Exists.intro; refine ⟨?_, ?_⟩; (focus (intro x hx; have ccl' := Rc.cell_le hx hbl ccl; have ccr' := Rc.cell_le hx hbr ccr; go_simp; (first | (fail) | ((try go_bits); (try go_simp); (try rfl))))); go_simp; refine hK _ ?_; clear hK K)
          refine Rc.done fun x Fs hx hle hg => ?_
          go_wp2_with fail
          refine NoPanic.normal ?_
          have HBX := Lib.hid (HBR.out.trans ((Rc.undrew hx).mono HBR.out.size))
          clear hx hle hg ccl ccr
          go_wp2_with fail
          refine ⟨⟨k + 1, by omega, by go_num, fun j hj => ?_, HBX.out⟩, by simp [intOf]; omega⟩
          by_cases hjk : j = k
          · rw [hjk, ← HX.out, ← HY.out]; exact he
          · exact HSM.out j (by omega)
        | false =>
          have he : X ≠ Y := by simpa using heb
          go_wp2_with fail
          refine Rc.region (wr.heap.size) 9 [] [] (by kernel_rfl) (Nat.le_refl _) (by kernel_rfl) ?_; intro p; simp only [List.take_succ_cons, List.take_zero, List.take_nil, List.drop_succ_cons, List.drop_zero, List.drop_nil]
          iterate 9 (refine Rc.rK rfl rfl ?_; intro K hK; apply Exists.intro; refine ⟨?_, ?_⟩; (focus (intro x hx; have ccl' := Rc.cell_le hx hbl ccl; have ccr' := Rc.cell_le hx hbr ccr; go_simp; (first | (fail) | ((try go_bits); (try go_simp); (try rfl))))); go_simp; refine hK _ ?_; clear hK K)
          refine Rc.done fun x Fs hx hle hg => ?_
          go_wp2_with fail
          refine NoPanic.normal ?_
          have HBX := Lib.hid (HBR.out.trans ((Rc.undrew hx).mono HBR.out.size))
          have HR : Hid ((A == B) = false) := Lib.hid (by
            rw [beq_eq_false_iff_ne]
            intro h
            apply he
            rw [HX.out, HY.out, h])
          clear hx hle hg ccl ccr
          go_wp2_with fail
          go_ret
          exact ⟨by rw [HR.out]; rfl, HBX.out⟩
      · obtain rfl : k = A.length := by omega
        have HR : Hid ((A == B) = true) := Lib.hid (by rw [beq_iff_eq]; exact getD_ext HLEN.out HSM.out)
        go_wp2_with fail
        go_ret
        exact ⟨by rw [HR.out]; rfl, HBR.out⟩
  · have hne : (A.length : Int) ≠ (B.length : Int) := by omega
    have HR : Hid ((A == B) = false) := Lib.hid (by
      rw [beq_eq_false_iff_ne]
      intro h
      exact hlen (by rw [h]))
    go_enter Tryd.func41, Tryd.ntmps41
    go_wp2_with fail
    go_ret
    exact ⟨by rw [HR.out]; rfl, Below.refl _ _⟩
end Ref
end Go.Proofs.YtkembhonfehlbaaDoor

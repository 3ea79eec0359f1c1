/- Is a signed root in the log: it ends. Conditions: none beyond the bounds of bytes. -/
import Derived.Test.YtmonkggoilhngaaGreatDoorGEqR
import Derived.Test.YtmonkggoilhngaaGreatDoorGRfcP
namespace Go.Proofs.YtmonkggoilhngaaGreatDoor
set_option linter.unusedVariables false
set_option linter.unusedSimpArgs false
open Go.RowKit Bits Mem Sha
namespace Stn
open Ref (RdL All32)
structure ProofIs (w : World) (C : Array Value) (qs : Option Addr) (cs : Nat) (S : List (List UInt8)) (there : Bool) (key val : List UInt8) : Prop where
  size : C.size = 66
  c0 : C[0]? = some (.slice qs S.length cs)
  c1 : C[1]? = some (.bool there)
  keyP : PartAt C 2 (bysA key)
  valP : PartAt C 34 (bysA val)
  keyL : key.length = 32
  valL : val.length = 32
  sums : RdL w (.slice qs S.length cs) S
  few : S.length ≤ 256
theorem ProofIs.below {w w' : World} {C : Array Value} {qs : Option Addr} {cs : Nat} {S : List (List UInt8)} {there : Bool} {key val : List UInt8} (h : ProofIs w C qs cs S there key val) (hb : Below w.heap.size w w') : ProofIs w' C qs cs S there key val := { h with sums := h.sums.below hb }
def signedA (n : Int) (root sg : List UInt8) : Array Value := #[.int .i64 n] ++ bysA root ++ bysA sg
structure UndIs (w : World) (U : Array Value) (C : Array Value) (qs : Option Addr) (cs : Nat) (S : List (List UInt8)) (there : Bool) (key val : List UInt8) (n : Int) (root sg log : List UInt8) (ql : Option Addr) (cl : Nat) (L : List (List UInt8)) : Prop where
  size : U.size = 196
  prf : ProofIs w C qs cs S there key val
  pat : PartAt U 0 C
  sgn : PartAt U 66 (signedA n root sg)
  rootL : root.length = 32
  sgL : sg.length = 64
  lo : -9223372036854775808 ≤ n
  hi : n ≤ 9223372036854775807
  logP : PartAt U 163 (bysA log)
  logL : log.length = 32
  sums : U[195]? = some (.slice ql L.length cl)
  row : RdL w (.slice ql L.length cl) L
section
variable {w w' : World} {U C : Array Value} {qs : Option Addr} {cs : Nat} {S : List (List UInt8)} {there : Bool} {key val : List UInt8} {n : Int} {root sg log : List UInt8} {ql : Option Addr} {cl : Nat} {L : List (List UInt8)}
theorem UndIs.below (h : UndIs w U C qs cs S there key val n root sg log ql cl L) (hb : Below w.heap.size w w') : UndIs w' U C qs cs S there key val n root sg log ql cl L := { h with prf := h.prf.below hb, row := h.row.below hb }
theorem UndIs.ep (h : UndIs w U C qs cs S there key val n root sg log ql cl L) : U[66]? = some (.int .i64 n) := h.sgn 0 _ (by unfold signedA; rw [Array.append_assoc, Array.getElem?_append_left (by simp)]; rfl)
theorem UndIs.rootP (h : UndIs w U C qs cs S there key val n root sg log ql cl L) : PartAt U 67 (bysA root) := by
  refine h.sgn.trans (o' := 1) (fun j v hv => ?_)
  have hj := (Array.getElem?_eq_some_iff.1 hv).1
  unfold signedA
  rw [Array.append_assoc, Array.getElem?_append_right (by simp)]
  simp only [List.size_toArray, List.length_singleton, Nat.add_sub_cancel_left]
  rw [Array.getElem?_append_left hj]
  exact hv
theorem signedA_size (hr : root.length = 32) (hs : sg.length = 64) : (signedA n root sg).size = 97 := by simp [signedA, bysA_size, hr, hs]
end
theorem fresh_own {w w' : World} {σ' : Ab.S} {v : Value} {κs : List Ab.K} {lo hi : Nat} (hT : Ab.WT Ab.gtL Ab.tabS w) (g : Ab.Go1 Ab.tabS σ' w w') (h : Ab.OW σ' v κs lo hi) : ∀ k, v.ownBlock = some k → w.heap.size ≤ k := by
  intro k hk
  rcases h with ⟨rfl, _⟩ | ⟨b, len, cap, l, rfl, h1, h2, h3, h4, hb, h5, h6⟩
  · cases hk
  · have e : b = k := by simpa [Value.ownBlock] using hk
    subst e
    rcases Nat.lt_or_ge b w.heap.size with hlt | hge
    · rw [g.same b hlt] at hb
      unfold Ab.tabS at hb
      obtain ⟨_, _, h2⟩ := Option.map_eq_some_iff.1 hb
      cases h2
    · exact hge
def IsB (e : Ending) : Prop := ∃ b, e = .returned (.bool b)
theorem stext_any {w : World} (hT : Ab.WT Ab.gtL Ab.tabS w) (n : Int) (h1 : -9223372036854775808 ≤ n) (h2 : n ≤ 9223372036854775807) {root : List UInt8} (hr : root.length = 32) :
    Calls Tryz.prog 68 #[.int .i64 n, .agg (bysA root)] w fun e w' => ∃ q c, ∃ l : List UInt8, e = .returned (.slice q 41 c) ∧ l.length = 41 ∧ Rd w' 1 (.slice q 41 c) 41 (bys l) ∧ (∀ k, (Value.slice q 41 c).ownBlock = some k → w.heap.size ≤ k) ∧ Below w.heap.size w w' := by
  refine (Ab.stext_calls hT (Ab.VTs.mk2 ⟨n, rfl, h1, h2⟩ (Ab.VT_bys hr))).2.mono ?_
  rintro _ w' ⟨v, rfl, σ', g1, g2, g3⟩
  have hf := fresh_own hT g1 g3
  obtain ⟨q, c, l, rfl, hrd, l1, l2⟩ := Ab.SS.rd (c := Ab.cx Ab.sg0) g2 (Ab.OW.ss g3)
  have hl : l.length = 41 := by omega
  rw [hl] at hf hrd ⊢
  exact ⟨q, c, l, rfl, hl, hrd, hf, g1.old⟩
set_option maxRecDepth 100000 in
set_option maxHeartbeats 4000000 in
theorem logged_any {w : World} {U C : Array Value} {qs : Option Addr} {cs : Nat} {S : List (List UInt8)} {there : Bool} {key val : List UInt8} {n : Int} {root sg log : List UInt8} {ql : Option Addr} {cl : Nat} {L : List (List UInt8)}
    (hT : Ab.WT Ab.gtL Ab.tabS w) (hS : Sha.Tabs w) (hU : UndIs w U C qs cs S there key val n root sg log ql cl L) :
    Calls Tryz.prog 44 #[.agg U] w fun e w' => IsB e ∧ Below w.heap.size w w' := by
  obtain ⟨w1, hw1⟩ : ∃ w1, w1 = w.alloc (.cells U 39) := ⟨_, rfl⟩
  have hb1 : Below w.heap.size w w1 := by rw [hw1]; exact (Below.refl _ _).alloc (Nat.le_refl _) _
  have hr1 : w1.heap[w.heap.size]? = some (.cells U 39 (0, 0)) := by rw [hw1]; exact heap_alloc_new w _
  have c66 : w1.cell? ⟨w.heap.size, 66, none⟩ = some (.int .i64 n) := (cell_of_row _ _ _ _ _ _ hr1).trans hU.ep
  have h1 := hU.lo
  have h2 := hU.hi
  have HU := Lib.hid (hU.below hb1)
  have HT := Lib.hid (hT.past hb1)
  have HS := Lib.hid (hS.below hb1)
  have HB1 := Lib.hid hb1
  have HR1 := Lib.hid hr1
  have HW1 := Lib.hid hw1
  rw [hw1] at c66
  clear hU hT hS hw1 hb1 hr1
  by_cases hn0 : n < 0
  · go_enter Tryz.func44, Tryz.ntmps44
    go_wp2_with fail
    go_ret
    rw [← HW1.out]
    exact ⟨⟨_, rfl⟩, HB1.out⟩
  · obtain ⟨m, rfl⟩ := Int.eq_ofNat_of_zero_le (show 0 ≤ n by omega)
    by_cases hn1 : (m : Int) = 9223372036854775807
    · have hne : ((m : Int) == 9223372036854775807) = true := by simpa using hn1
      go_enter Tryz.func44, Tryz.ntmps44
      go_wp2_with fail
      go_ret
      rw [← HW1.out]
      exact ⟨⟨_, rfl⟩, HB1.out⟩
    · have hne : ((m : Int) == 9223372036854775807) = false := by simpa using hn1
      have hnn : decide ((m : Int) < 0) = false := by simp
      have hm : m < 9223372036854775807 := by omega
      clear h1 h2 hn1 hn0
      go_enter Tryz.func44, Tryz.ntmps44
      go_wp2_with fail
      rw [← HW1.out]
      have HRP := Lib.hid HU.out.rootP
      have HIR := Lib.hid (info32r root HU.out.rootL)
      have HIL := Lib.hid (info32r log HU.out.logL)
      have hwr : IntKind.i64.wrap ((m : Int) + 1) = (m : Int) + 1 := IntWalk.i64_in _ (by omega)
      refine Rc.region (w1.heap.size) 14 [Rc.F 4 (fun p => .slice p.q 41 p.c) (fun p _ y => ∃ l : List UInt8, l.length = 41 ∧ Rd y 1 (.slice p.q 41 p.c) 41 (bys l)), Rc.G 12 [4] (fun p => .int .i64 (p.c : Int)) (fun _ _ _ => True)] [] (by kernel_rfl) (Nat.le_refl _) (by kernel_rfl) ?_; intro p; simp only [List.take, List.drop]
      iterate 3 (refine Rc.rK rfl rfl ?_; intro K hK; apply Exists.intro; refine ⟨?_, ?_⟩; (focus (intro x hx;  go_simp; (first | (fail) | ((try go_bits); (try go_simp); (try rfl))))); go_simp; refine hK _ ?_; clear hK K)
      refine Rc.r_load rfl rfl _ _ rfl (.agg (bysA root)) (fun x hx => HRP.out.load (Rp.row_le (Rc.undrew hx) HR1.out) Tryz.underlying22 rfl HIR.out) ?_; intro K hK; go_simp; refine hK _ ?_; clear hK K
      refine Rc.fK rfl rfl rfl rfl ?_ ?_
      · intro x Fs hx hle hg K hK
        go_wp2_with fail
        refine (stext_any (HT.out.past (Rc.undrew hx)) (m : Int) (by omega) (by omega) HU.out.rootL).mono ?_
        rintro e x' ⟨q', c', l, rfl, hl, hrd, hown, hb⟩
        go_wp2_with fail
        exact hK ⟨q', c', undef⟩ x' hb (fun F y hF hy => ⟨l, hl, hrd.keeps hy (fun k hk => .inr (hF k (hown k hk) (hrd.ltB k hk)))⟩)
      intro K hK; go_simp; refine hK _ ?_; clear hK K
      iterate 4 (refine Rc.rK rfl rfl ?_; intro K hK; apply Exists.intro; refine ⟨?_, ?_⟩; (focus (intro x hx;  go_simp; (first | (fail) | ((try go_bits); (try go_simp); (try rfl))))); go_simp; refine hK _ ?_; clear hK K)
      refine Rc.r_load rfl rfl _ _ rfl (.slice ql L.length cl) (fun x hx => load_rowS ((cell_of_row _ _ _ _ _ _ (Rp.row_le (Rc.undrew hx) HR1.out)).trans HU.out.sums)) ?_; intro K hK; go_simp; refine hK _ ?_; clear hK K
      iterate 1 (refine Rc.rK rfl rfl ?_; intro K hK; apply Exists.intro; refine ⟨?_, ?_⟩; (focus (intro x hx;  go_simp; (first | (fail) | ((try go_bits); (try go_simp); (try rfl))))); go_simp; refine hK _ ?_; clear hK K)
      refine Rc.r_load rfl rfl _ _ rfl (.agg (bysA log)) (fun x hx => HU.out.logP.load (Rp.row_le (Rc.undrew hx) HR1.out) Tryz.underlying22 rfl HIL.out) ?_; intro K hK; go_simp; refine hK _ ?_; clear hK K
      refine Rc.fK rfl rfl rfl rfl ?_ ?_
      · intro x Fs hx hle hg K hK
        obtain ⟨l, hl, hrd⟩ : ∃ l : List UInt8, l.length = 41 ∧ Rd x 1 (.slice (p 4).q 41 (p 4).c) 41 (bys l) := hg.1
        have hrow := HU.out.row.below (Rc.undrew hx)
        have hck := Ref.checkI_any (p 4).q (p 4).c l (m : Int) ((m : Int) + 1) ql cl L log x (HS.out.below (Rc.undrew hx)) (by rw [hl]; exact hrd) (by omega) hrow HU.out.logL (by omega)
        rw [hl] at hck
        have HCK := Lib.hid hck
        obtain ⟨z, hz⟩ : ∃ z : Nat, Ref.chkI l (m : Int) ((m : Int) + 1) L log = (z : Int) := by
          unfold Ref.chkI
          split
          · exact ⟨1, rfl⟩
          · split
            · exact ⟨0, rfl⟩
            · exact ⟨17, rfl⟩
        have HZ := Lib.hid hz
        clear hrd hl hrow hck hz hg hx
        go_wp2_with fail
        refine HCK.out.mono ?_
        rintro e x' ⟨rfl, hb⟩
        rw [HZ.out]
        go_wp2_with fail
        exact hK ⟨none, z, undef⟩ x' hb (fun _ _ _ _ => trivial)
      intro K hK; go_simp; refine hK _ ?_; clear hK K
      iterate 1 (refine Rc.rK rfl rfl ?_; intro K hK; apply Exists.intro; refine ⟨?_, ?_⟩; (focus (intro x hx;  go_simp; (first | (fail) | ((try go_bits); (try go_simp); (try rfl))))); go_simp; refine hK _ ?_; clear hK K)
      refine Rc.done fun x Fs hx hle hg => ?_
      have HBX := Lib.hid (HB1.out.trans ((Rc.undrew hx).mono HB1.out.size))
      clear hx hle hg
      obtain ⟨bb, hbb⟩ : ∃ bb, bb = (((p 12).c : Int) == 0) := ⟨_, rfl⟩
      rw [← hbb]
      clear hbb hwr
      go_wp2_with fail
      refine NoPanic.normal ?_
      go_wp2_with fail
      go_ret
      exact ⟨⟨bb, rfl⟩, HBX.out⟩
end Stn
end Go.Proofs.YtmonkggoilhngaaGreatDoor
/- How a member stands under a signed root: what is told. Conditions: none beyond the bounds of bytes. -/
namespace Go.Proofs.YtmonkggoilhngaaGreatDoor
open Go.RowKit Bits Mem Sha
namespace Stn
open Ref (RdL All32)
structure MemIs (w : World) (M : Array Value) (qi : Option Addr) (ci : Nat) (id : List UInt8) (gone : Bool) (n : Int) (link : List UInt8) : Prop where
  size : M.size = 35
  c0 : M[0]? = some (.slice qi id.length ci)
  c1 : M[1]? = some (.bool gone)
  c2 : M[2]? = some (.int .i64 n)
  linkP : PartAt M 3 (bysA link)
  linkL : link.length = 32
  lo : -9223372036854775808 ≤ n
  hi : n ≤ 9223372036854775807
  idR : Rd w 1 (.slice qi id.length ci) id.length (bys id)
  idL : id.length ≤ 1000000
theorem MemIs.below {w w' : World} {M : Array Value} {qi : Option Addr} {ci : Nat} {id : List UInt8} {gone : Bool} {n : Int} {link : List UInt8} (h : MemIs w M qi ci id gone n link) (hb : Below w.heap.size w w') : MemIs w' M qi ci id gone n link := { h with idR := h.idR.below hb }
theorem CT_signed {σ : Ab.S} {n : Int} {root sg : List UInt8} (h1 : -9223372036854775808 ≤ n) (h2 : n ≤ 9223372036854775807) (hr : root.length = 32) (hs : sg.length = 64) : Ab.CT σ (signedA n root sg).toList Ab.signedK := by
  have e : (signedA n root sg).toList = .int .i64 n :: (bys root ++ bys sg) := by simp [signedA, bysA]
  have e2 : Ab.signedK = .int .i64 :: (List.replicate 32 Ab.B8 ++ List.replicate 64 Ab.B8) := rfl
  rw [e, e2]
  have hcr := Ab.CT_bys (σ := σ) hr
  have hcs := Ab.CT_bys (σ := σ) hs
  refine ⟨by simp [bys_length, hr, hs], fun i κ hi => ?_⟩
  cases i with
  | zero => cases hi; exact ⟨_, rfl, n, rfl, h1, h2⟩
  | succ i =>
    rw [List.getElem?_cons_succ] at hi ⊢
    rw [List.getElem?_append] at hi ⊢
    rw [List.length_replicate] at hi
    rw [bys_length, hr]
    split at hi
    · rename_i h; rw [if_pos h]; exact hcr.2 i κ hi
    · rename_i h; rw [if_neg h]; exact hcs.2 _ κ hi
theorem scheck_any {w : World} (hT : Ab.WT Ab.gtL Ab.tabS w) {pub : List UInt8} (hp : pub.length = 32) {n : Int} {root sg : List UInt8} (h1 : -9223372036854775808 ≤ n) (h2 : n ≤ 9223372036854775807) (hr : root.length = 32) (hs : sg.length = 64) :
    Calls Tryz.prog 43 #[.agg (bysA pub), .agg (signedA n root sg)] w fun e w' => ∃ z : Int, e = .returned (.int .i64 z) ∧ Below w.heap.size w w' := by
  refine (Ab.scheck_calls hT (Ab.VTs.mk2 (Ab.VT_bys hp) ⟨_, rfl, CT_signed h1 h2 hr hs⟩)).2.mono ?_
  rintro _ w' ⟨v, rfl, σ', g1, g2, z, rfl, _, _⟩
  exact ⟨z, rfl, g1.old⟩
theorem infoSigned : (Tryz.prog.info? 37).map (·.size) = some 97 := by kernel_rfl
theorem infoUnder : (Tryz.prog.info? 39).map (·.size) = some 196 := by kernel_rfl
def stdP (id : List UInt8) (gone : Bool) (n : Int) (link : List UInt8) (S : List (List UInt8)) (there : Bool) (key val root : List UInt8) : Prop :=
  there = true ∧ key = sha (5 :: id) ∧ val = sha (valT gone n link) ∧ sha (topT (bit (sha (5 :: id))) S (endT there key val)) = root
set_option maxRecDepth 100000 in
set_option maxHeartbeats 4000000 in
theorem stands_any {w : World} {pub : List UInt8} {M : Array Value} {qi : Option Addr} {ci : Nat} {id : List UInt8} {gone : Bool} {nm : Int} {link : List UInt8} {U C : Array Value} {qs : Option Addr} {cs : Nat} {S : List (List UInt8)} {there : Bool} {key val : List UInt8} {n : Int} {root sg log : List UInt8} {ql : Option Addr} {cl : Nat} {L : List (List UInt8)}
    (hT : Ab.WT Ab.gtL Ab.tabS w) (hS : Sha.Tabs w) (hp : pub.length = 32) (hM : MemIs w M qi ci id gone nm link) (hU : UndIs w U C qs cs S there key val n root sg log ql cl L) :
    Calls Tryz.prog 18 #[.agg (bysA pub), .agg M, .agg U] w fun e w' => ∃ z : Int, e = .returned (.int .i64 z) ∧ (z = 0 → stdP id gone nm link S there key val root) ∧ Below w.heap.size w w' := by
  obtain ⟨w1, hw1⟩ : ∃ w1, w1 = ((w.alloc (.cells (bysA pub) 22)).alloc (.cells M 43)).alloc (.cells U 39) := ⟨_, rfl⟩
  have hb1 : Below w.heap.size w w1 := by rw [hw1]; exact (((Below.refl _ _).alloc (Nat.le_refl _) _).alloc (by simp) _).alloc (by simp; try omega) _
  have hr0 : w1.heap[w.heap.size]? = some (.cells (bysA pub) 22 (0, 0)) := by rw [hw1]; exact (Rg.heap_alloc_past _ _ _ (by simp; try omega)).trans ((Rg.heap_alloc_past _ _ _ (by simp)).trans (Rg.heap_alloc_at w _ _ rfl))
  have hr1 : w1.heap[w.heap.size + 1]? = some (.cells M 43 (0, 0)) := by rw [hw1]; exact (Rg.heap_alloc_past _ _ _ (by simp)).trans (Rg.heap_alloc_at _ _ _ (by simp))
  have hr2 : w1.heap[w.heap.size + 1 + 1]? = some (.cells U 39 (0, 0)) := by rw [hw1]; exact Rg.heap_alloc_at _ _ _ (by simp)
  have HB1 := Lib.hid hb1
  have HR0 := Lib.hid hr0
  have HR1 := Lib.hid hr1
  have HR2 := Lib.hid hr2
  have HT1 := Lib.hid (hT.past hb1)
  have HS1 := Lib.hid (hS.below hb1)
  have HM := Lib.hid (hM.below hb1)
  have HU := Lib.hid (hU.below hb1)
  have HP := Lib.hid hp
  have HW1 := Lib.hid hw1
  have HL0 : Hid ((Instr.loadAt 22 (.pointer (some ⟨w.heap.size, 0, none⟩))).run Tryz.prog w1 = .ok (.agg (bysA pub)) w1) := Lib.hid ((PartAt.self _).load hr0 Tryz.underlying22 rfl (info32r pub hp))
  have HL1 : Hid ((Instr.loadAt 37 (.pointer (some ⟨w.heap.size + 1 + 1, 66, none⟩))).run Tryz.prog w1 = .ok (.agg (signedA n root sg)) w1) := Lib.hid (hU.sgn.load hr2 Tryz.underlying37 rfl (by rw [signedA_size hU.rootL hU.sgL]; exact infoSigned))
  have HCK := Lib.hid (scheck_any (hT.past hb1) hp hU.lo hU.hi hU.rootL hU.sgL)
  clear hw1 hb1 hr0 hr1 hr2 hT hS hM hU hp
  go_enter Tryz.func18, Tryz.ntmps18
  go_upto_region 1 with fail
  rw [← HW1.out]
  go_wp2_with (first | (refine l_load rfl _ _ rfl _ HL0.out ?_) | (refine l_load rfl _ _ rfl _ HL1.out ?_))
  refine HCK.out.mono ?_
  rintro e w2 ⟨z, rfl, hb2⟩
  have HB2 := Lib.hid hb2
  clear hb2
  by_cases hz : z = 0
  · subst hz
    have HLU : Hid ((Instr.loadAt 39 (.pointer (some ⟨w.heap.size + 1 + 1, 0, none⟩))).run Tryz.prog w2 = .ok (.agg U) w2) := Lib.hid ((PartAt.self _).load (Rp.row_le HB2.out HR2.out) Tryz.underlying39 rfl (by rw [HU.out.size]; exact infoUnder))
    have HLG := Lib.hid (logged_any (HT1.out.past HB2.out) (HS1.out.below HB2.out) (HU.out.below HB2.out))
    go_wp2_with (refine l_load rfl _ _ rfl _ HLU.out ?_)
    refine HLG.out.mono ?_
    rintro e w3 ⟨⟨b, rfl⟩, hb3⟩
    have HB3 := Lib.hid (HB2.out.trans (hb3.mono HB2.out.size))
    clear hb3
    cases b with
    | false =>
      go_wp2_with fail
      go_ret
      exact ⟨_, rfl, fun h => absurd h (by decide), HB1.out.trans (HB3.out.mono HB1.out.size)⟩
    | true =>
      go_upto_region 6 with fail
      obtain ⟨K, hK⟩ : ∃ K, K = sha (5 :: id) := ⟨_, rfl⟩
      have HK := Lib.hid hK
      have HKL : Hid (K.length = 32) := Lib.hid (by rw [hK]; exact sha_length _)
      have HT3 := Lib.hid (HT1.out.past HB3.out)
      have HS3 := Lib.hid (HS1.out.below HB3.out)
      have HU3 := Lib.hid (HU.out.below HB3.out)
      have HM3 := Lib.hid (HM.out.below HB3.out)
      have HR13 := Lib.hid (Rp.row_le HB3.out HR1.out)
      have HR23 := Lib.hid (Rp.row_le HB3.out HR2.out)
      have HIR := Lib.hid (info32r root HU.out.rootL)
      have HKY : Hid (∀ x, Below w3.heap.size w3 x → Calls Tryz.prog 46 #[.slice qi id.length ci] x fun e w' => e = .returned (.agg (bysA K)) ∧ Below x.heap.size x w') := Lib.hid (fun x hx => by
        rw [hK]
        exact Fnd.key_any qi ci id x (HS3.out.below hx) (HM3.out.idR.below hx) HM3.out.idL)
      clear hK
      refine Rc.region (w3.heap.size) 16 [Rc.F 5 (fun _ => .agg (bysA K)) (fun _ _ _ => True), Rc.F 8 (fun p => .tuple #[p.v, .bool (p.c % 2 == 1), .int .i64 ((p.c / 2 : Nat) : Int)]) (fun p _ _ => ∃ v, p.v = .agg (bysA v) ∧ chkP K there key val S root v (p.c % 2 == 1) ((p.c / 2 : Nat) : Int)), Rc.F 13 (fun p => .pointer p.q) (fun p F y => ∃ g, p.q = some ⟨g, 0, none⟩ ∧ F g ∧ w3.heap.size ≤ g ∧ y.heap[g]? = some (.cells (bysA zeros32) 22 (0, 0))), ⟨14, [8, 13], [13], some (fun _ _ => undef), fun p _ _ y => ∃ g v, (p 13).q = some ⟨g, 0, none⟩ ∧ (p 8).v = .agg (bysA v) ∧ w3.heap.size ≤ g ∧ y.heap[g]? = some (.cells (bysA v) 22 (0, 0))⟩] [8, 14] (by kernel_rfl) (Nat.le_refl _) (by kernel_rfl) ?_; intro p; simp only [List.take, List.drop]
      iterate 2 (refine Rc.rK rfl rfl ?_; intro K hK; apply Exists.intro; refine ⟨?_, ?_⟩; (focus (intro x hx;  go_simp; (first | (fail) | ((try go_bits); (try go_simp); (try rfl))))); go_simp; refine hK _ ?_; clear hK K)
      refine Rc.r_load rfl rfl _ _ rfl (.agg (bysA root)) (fun x hx => HU.out.rootP.load (Rp.row_le (Rc.undrew hx) HR23.out) Tryz.underlying22 rfl HIR.out) ?_; intro K hK; go_simp; refine hK _ ?_; clear hK K
      iterate 1 (refine Rc.rK rfl rfl ?_; intro K hK; apply Exists.intro; refine ⟨?_, ?_⟩; (focus (intro x hx;  go_simp; (first | (fail) | ((try go_bits); (try go_simp); (try rfl))))); go_simp; refine hK _ ?_; clear hK K)
      refine Rc.r_load rfl rfl _ _ rfl (.slice qi id.length ci) (fun x hx => load_rowU ((cell_of_row _ _ _ _ _ _ (Rp.row_le (Rc.undrew hx) HR13.out)).trans HM.out.c0)) ?_; intro K hK; go_simp; refine hK _ ?_; clear hK K
      refine Rc.fK rfl rfl rfl rfl ?_ ?_
      · intro x Fs hx hle hg K' hK'
        have hck := HKY.out x (Rc.undrew hx)
        clear hx hg
        go_wp2_with fail
        refine hck.mono ?_
        rintro e x' ⟨rfl, hb⟩
        go_wp2_with fail
        exact hK' Rc.dflt x' hb (fun _ _ _ _ => trivial)
      intro K hK; go_simp; refine hK _ ?_; clear hK K
      iterate 1 (refine Rc.rK rfl rfl ?_; intro K hK; apply Exists.intro; refine ⟨?_, ?_⟩; (focus (intro x hx;  go_simp; (first | (fail) | ((try go_bits); (try go_simp); (try rfl))))); go_simp; refine hK _ ?_; clear hK K)
      refine Rc.r_load rfl rfl _ _ rfl (.agg C) (fun x hx => HU.out.pat.load (Rp.row_le (Rc.undrew hx) HR23.out) Tryz.underlying32 rfl (by rw [HU.out.prf.size]; exact Fnd.infoProof)) ?_; intro K hK; go_simp; refine hK _ ?_; clear hK K
      refine Rc.fK rfl rfl rfl rfl ?_ ?_
      · intro x Fs hx hle hg K' hK'
        have hpr := (HU3.out.prf.below (Rc.undrew hx))
        have hck := Lib.hid (pcheck_any root K C there key val qs cs S x (HT3.out.past (Rc.undrew hx)) (HS3.out.below (Rc.undrew hx)) HU.out.rootL HKL.out hpr.size hpr.c0 hpr.c1 hpr.keyP hpr.valP hpr.keyL hpr.valL hpr.sums hpr.few)
        clear hx hg hpr
        go_wp2_with fail
        refine hck.out.mono ?_
        rintro e x' ⟨v, t, z, rfl, hch, hb⟩
        obtain ⟨m, rfl⟩ : ∃ m : Nat, z = (m : Int) := by
          rcases hch.2.1 with h | h
          · exact ⟨0, h⟩
          · exact ⟨17, h⟩
        have e1 : ((2 * m + t.toNat) % 2 == 1) = t := by cases t <;> simp [Nat.add_mod]
        have e2 : (2 * m + t.toNat) / 2 = m := by cases t <;> simp <;> omega
        go_wp2_with fail
        have hk2 := hK' ⟨none, 2 * m + t.toNat, .agg (bysA v)⟩ x' hb (fun _ _ _ _ => ⟨v, rfl, by rw [e1, e2]; exact hch⟩)
        simp only [e1, e2] at hk2
        exact hk2
      intro K hK; go_simp; refine hK _ ?_; clear hK K
      iterate 4 (refine Rc.rK rfl rfl ?_; intro K hK; apply Exists.intro; refine ⟨?_, ?_⟩; (focus (intro x hx;  go_simp; (first | (fail) | ((try go_bits); (try go_simp); (try rfl))))); go_simp; refine hK _ ?_; clear hK K)
      refine Rc.fK rfl rfl rfl rfl ?_ ?_
      · intro x Fs hx hle hg K' hK'
        have hlt : x.heap.size < (x.alloc (.cells (bysA zeros32) 22)).heap.size := lt_of_heap (heap_alloc_new x (.cells (bysA zeros32) 22))
        have hnew := heap_alloc_new x (.cells (bysA zeros32) 22)
        have hk2 := hK' ⟨some ⟨x.heap.size, 0, none⟩, 0, undef⟩ _ ((Below.refl _ _).alloc (Nat.le_refl _) (.cells (bysA zeros32) 22)) (fun F y hF hy => ⟨x.heap.size, rfl, hF _ (Nat.le_refl _) hlt, hle, (hy.block _ hlt (.inr (hF _ (Nat.le_refl _) hlt))).trans hnew⟩)
        have HK2 := Lib.hid hk2
        clear hk2 hnew hlt hx hg hK'
        go_wp2_with fail
        rw [z32S]
        exact HK2.out
      intro K hK; go_simp; refine hK _ ?_; clear hK K
      refine Rc.cK rfl rfl rfl ?_ ?_
      · intro x Fs hx hle hg K' hK'
        obtain ⟨v, hv, hch⟩ : ∃ v, (p 8).v = .agg (bysA v) ∧ chkP K there key val S root v ((p 8).c % 2 == 1) (((p 8).c / 2 : Nat) : Int) := hg.1
        obtain ⟨g, hq, hF, hgs, hrow⟩ : ∃ g, (p 13).q = some ⟨g, 0, none⟩ ∧ Fs 13 g ∧ w3.heap.size ≤ g ∧ x.heap[g]? = some (.cells (bysA zeros32) 22 (0, 0)) := hg.2.1
        have HV := Lib.hid hv
        have HQ := Lib.hid hq
        have HIV := Lib.hid (info32r v hch.1)
        have HZV : Hid ((bysA zeros32).size = (bysA v).size) := Lib.hid (by rw [bysA_size, bysA_size, hch.1]; rfl)
        have HRW := Lib.hid hrow
        have hk2 := hK' Rc.dflt (x.setRow g (bysA v)) ⟨rfl, rfl, rfl, by simp [World.setRow], fun k hk hn => setRow_heap_ne (fun e => hn ⟨13, by simp, by rw [e]; exact hF⟩)⟩ (fun y hy => ⟨g, v, hq, hv, hgs, (hy.block g (by rw [show (x.setRow g (bysA v)).heap.size = x.heap.size by simp [World.setRow]]; exact lt_of_heap hrow) (.inr (.inl ⟨13, by simp, hF⟩))).trans (setRow_heap _ _ _ _ _ _ hrow)⟩)
        rw [hv, hq] at hk2
        have HK2 := Lib.hid hk2
        clear hv hq hch hF hrow hg hk2 hK' hx
        rw [HV.out, HQ.out]
        go_wp2_with (refine Rg.store_row rfl 22 _ _ rfl g rfl 22 (bysA zeros32) (bysA v) rfl HRW.out HIV.out HZV.out (bysA_one _) ?_)
        exact HK2.out
      intro K hK; go_simp; refine hK _ ?_; clear hK K
      iterate 1 (refine Rc.rK rfl rfl ?_; intro K hK; apply Exists.intro; refine ⟨?_, ?_⟩; (focus (intro x hx;  go_simp; (first | (fail) | ((try go_bits); (try go_simp); (try rfl))))); go_simp; refine hK _ ?_; clear hK K)
      refine Rc.done fun x Fs hx hle hg => ?_
      obtain ⟨v, hv8, hch⟩ : ∃ v, (p 8).v = .agg (bysA v) ∧ chkP K there key val S root v ((p 8).c % 2 == 1) (((p 8).c / 2 : Nat) : Int) := hg.1
      obtain ⟨g, v2, hq13, hv8', hgs, hrow⟩ : ∃ g v, (p 13).q = some ⟨g, 0, none⟩ ∧ (p 8).v = .agg (bysA v) ∧ w3.heap.size ≤ g ∧ x.heap[g]? = some (.cells (bysA v) 22 (0, 0)) := hg.2.1
      rw [hv8] at hv8'
      have hvv : bysA v = bysA v2 := by injection hv8'
      rw [← hvv] at hrow
      rw [hv8, hq13]
      obtain ⟨tb, htb⟩ : ∃ tb, tb = ((p 8).c % 2 == 1) := ⟨_, rfl⟩
      obtain ⟨zn, hzn⟩ : ∃ zn, zn = (p 8).c / 2 := ⟨_, rfl⟩
      rw [← htb, ← hzn] at hch
      rw [← htb]
      rw [show (((p 8).c : Int) / 2) = (zn : Int) by rw [hzn]; simp]
      have HCH := Lib.hid hch
      have HRV := Lib.hid hrow
      have HGS := Lib.hid hgs
      have HBX := Lib.hid (HB3.out.trans ((Rc.undrew hx).mono HB3.out.size))
      have HT4 := Lib.hid (HT3.out.past (Rc.undrew hx))
      have HS4 := Lib.hid (HS3.out.below (Rc.undrew hx))
      have HR14 := Lib.hid (Rp.row_le (Rc.undrew hx) HR13.out)
      have HBW := HB1
      clear hx hle hg hv8 hq13 hv8' hvv hch hrow hgs htb hzn
      go_wp2_with fail
      refine NoPanic.normal ?_
      by_cases hz0 : zn = 0
      · subst hz0
        rw [show ((0 : Nat) : Int) = 0 from rfl]
        cases tb with
        | false =>
          go_upto_region 7 with fail
          refine Rc.region (x.heap.size) 11 [] [] (by kernel_rfl) (Nat.le_refl _) (by kernel_rfl) ?_; intro p; simp only [List.take, List.drop]
          iterate 7 (refine Rc.rK rfl rfl ?_; intro K hK; apply Exists.intro; refine ⟨?_, ?_⟩; (focus (intro x hx;  go_simp; (first | (fail) | ((try go_bits); (try go_simp); (try rfl))))); go_simp; refine hK _ ?_; clear hK K)
          iterate 4 (refine Rc.rSkip rfl rfl ?_; intro K hK; go_simp; refine hK _ ?_; clear hK K)
          refine Rc.done fun y Fs hx hle hg => ?_
          have HBY := Lib.hid (HBX.out.trans ((Rc.undrew hx).mono HBX.out.size))
          clear hx hle hg
          go_wp2_with fail
          refine NoPanic.normal ?_
          go_wp2_with fail
          go_ret
          exact ⟨_, rfl, fun h => absurd h (by decide), HB1.out.trans (HBY.out.mono HB1.out.size)⟩
        | true =>
          obtain ⟨hv32, _, hch⟩ := HCH.out
          obtain ⟨h256, htop, htk, hv1⟩ := hch rfl
          have htk2 : there = true ∧ key = K := by
            cases there with
            | false => cases htk
            | true => exact ⟨rfl, eq_of_beq htk.symm⟩
          have hv2 := hv1 rfl
          have HF : Hid (there = true ∧ key = K ∧ v = val ∧ sha (topT (bit K) S (endT there key val)) = root) := Lib.hid ⟨htk2.1, htk2.2, hv2, htop⟩
          obtain ⟨R, hR⟩ : ∃ R, R = sha (valT gone nm link) := ⟨_, rfl⟩
          have hRL : R.length = 32 := by rw [hR]; exact sha_length _
          have HRE := Lib.hid hR
          have HIV := Lib.hid (info32r v hv32)
          obtain ⟨b1, hb1⟩ : ∃ b, (v == R) = b := ⟨_, rfl⟩
          have HB11 := Lib.hid hb1
          clear hch h256 htop htk htk2 hv1 hv2 hR
          go_upto_region 7 with fail
          refine Rc.region (x.heap.size) 11 [Rc.F 9 (fun _ => .agg (bysA R)) (fun _ _ _ => True)] [] (by kernel_rfl) (Nat.le_refl _) (by kernel_rfl) ?_; intro p; simp only [List.take, List.drop]
          iterate 7 (refine Rc.rK rfl rfl ?_; intro K hK; apply Exists.intro; refine ⟨?_, ?_⟩; (focus (intro x hx;  go_simp; (first | (fail) | ((try go_bits); (try go_simp); (try rfl))))); go_simp; refine hK _ ?_; clear hK K)
          refine Rc.r_load rfl rfl _ _ rfl (.agg (bysA v)) (fun x hx => (PartAt.self _).load (Rp.row_le (Rc.undrew hx) HRV.out) Tryz.underlying22 rfl HIV.out) ?_; intro K hK; go_simp; refine hK _ ?_; clear hK K
          refine Rc.r_load rfl rfl _ _ rfl (.agg M) (fun x hx => (PartAt.self _).load (Rp.row_le (Rc.undrew hx) HR14.out) Tryz.underlying43 rfl (by rw [HM.out.size]; exact infoMem)) ?_; intro K hK; go_simp; refine hK _ ?_; clear hK K
          refine Rc.fK rfl rfl rfl rfl ?_ ?_
          · intro y Fs hx hle hg K' hK'
            have hck := Lib.hid (value_any M gone nm link HM.out.size HM.out.c1 HM.out.c2 HM.out.linkP HM.out.linkL y (HS4.out.below (Rc.undrew hx)))
            rw [← HRE.out] at hck
            clear hx hg
            refine Ref.unguard16 (by rfl) ?_
            go_wp2_with fail
            refine hck.out.mono ?_
            rintro e y' ⟨rfl, hb⟩
            go_wp2_with fail
            exact hK' Rc.dflt y' hb (fun _ _ _ _ => trivial)
          intro K hK; go_simp; refine hK _ ?_; clear hK K
          iterate 1 (refine Rc.rK rfl rfl ?_; intro K hK; apply Exists.intro; refine ⟨?_, ?_⟩; (focus (intro x hx;  go_simp; (first | (fail) | ((try go_bits); (try go_simp); (try rfl))))); go_simp; refine hK _ ?_; clear hK K)
          refine Rc.done fun y Fs hx hle hg => ?_
          have HBY := Lib.hid (HBX.out.trans ((Rc.undrew hx).mono HBX.out.size))
          clear hx hle hg hb1
          cases b1 with
          | true =>
            go_wp2_with fail
            refine NoPanic.normal ?_
            go_wp2_with fail
            go_ret
            refine ⟨_, rfl, fun _ => ⟨HF.out.1, by rw [HF.out.2.1, HK.out], ?_, by rw [← HK.out]; exact HF.out.2.2.2⟩, HB1.out.trans (HBY.out.mono HB1.out.size)⟩
            rw [← HF.out.2.2.1, ← HRE.out]
            exact eq_of_beq HB11.out
          | false =>
            go_wp2_with fail
            refine NoPanic.normal ?_
            go_wp2_with fail
            go_ret
            exact ⟨_, rfl, fun h => absurd h (by decide), HB1.out.trans (HBY.out.mono HB1.out.size)⟩
      · have hzi : ((zn : Int) == 0) = false := by rw [beq_eq_false_iff_ne]; omega
        have hzi2 : ((zn : Int) != 0) = true := by rw [bne_iff_ne]; omega
        go_upto_region 7 with fail
        refine Rc.region (x.heap.size) 11 [] [] (by kernel_rfl) (Nat.le_refl _) (by kernel_rfl) ?_; intro p; simp only [List.take, List.drop]
        iterate 3 (refine Rc.rK rfl rfl ?_; intro K hK; apply Exists.intro; refine ⟨?_, ?_⟩; (focus (intro x hx;  go_simp; (first | (fail) | ((try go_bits); (try go_simp); (try rfl))))); go_simp; refine hK _ ?_; clear hK K)
        iterate 2 (refine Rc.rSkip rfl rfl ?_; intro K hK; go_simp; refine hK _ ?_; clear hK K)
        iterate 2 (refine Rc.rK rfl rfl ?_; intro K hK; apply Exists.intro; refine ⟨?_, ?_⟩; (focus (intro x hx;  go_simp; (first | (fail) | ((try go_bits); (try go_simp); (try rfl))))); go_simp; refine hK _ ?_; clear hK K)
        iterate 4 (refine Rc.rSkip rfl rfl ?_; intro K hK; go_simp; refine hK _ ?_; clear hK K)
        refine Rc.done fun y Fs hx hle hg => ?_
        have HBY := Lib.hid (HBX.out.trans ((Rc.undrew hx).mono HBX.out.size))
        clear hx hle hg
        go_wp2_with fail
        refine NoPanic.normal ?_
        go_wp2_with fail
        go_ret
        exact ⟨_, rfl, fun h => absurd h (by decide), HB1.out.trans (HBY.out.mono HB1.out.size)⟩
  · have hz1 : (z == 0) = false := by simpa using hz
    have hz2 : (z != 0) = true := by simpa using hz
    go_wp2_with fail
    go_ret
    exact ⟨z, rfl, fun h => absurd h hz, HB1.out.trans (HB2.out.mono HB1.out.size)⟩
end Stn
end Go.Proofs.YtmonkggoilhngaaGreatDoor

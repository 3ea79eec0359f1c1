/- The walk of custumallaw17.CommitOne. -/
import Derived.Test.YtkembhonfehlbaaDoorCommitC
import Derived.Test.YtkembhonfehlbaaDoorClash
namespace Go.Proofs.YtkembhonfehlbaaDoor
open Go.RowKit Bits Mem Sha
namespace Ref
theorem ofNat_mod17 {a b : Nat} (h : UInt8.ofNat a = UInt8.ofNat b) : a % 256 = b % 256 := by
  have := congrArg UInt8.toNat h
  rw [UInt8.toNat_ofNat', UInt8.toNat_ofNat'] at this
  exact this
theorem be_inj17 {u v : Nat} (hu : u < 18446744073709551616) (hv : v < 18446744073709551616) (h : be u 8 = be v 8) : u = v := by
  have each : ∀ i, i < 8 → u / 2 ^ (8 * (7 - i)) % 256 = v / 2 ^ (8 * (7 - i)) % 256 := fun i hi => by
    have h1 : (be u 8)[i]? = (be v 8)[i]? := by rw [h]
    simp only [be, List.getElem?_map, List.getElem?_range hi, Option.map_some, Option.some.injEq] at h1
    exact ofNat_mod17 h1
  have h0 := each 0 (by omega)
  have h1 := each 1 (by omega)
  have h2 := each 2 (by omega)
  have h3 := each 3 (by omega)
  have h4 := each 4 (by omega)
  have h5 := each 5 (by omega)
  have h6 := each 6 (by omega)
  have h7 := each 7 (by omega)
  clear each h
  simp only [Nat.reducePow, Nat.reduceMul, Nat.reduceSub, Nat.sub_zero, Nat.sub_self, Nat.mul_zero, Nat.pow_zero, Nat.div_one] at h0 h1 h2 h3 h4 h5 h6 h7
  have e1 : u / 72057594037927936 = v / 72057594037927936 := by omega
  have e2 : u / 281474976710656 = v / 281474976710656 := by omega
  have e3 : u / 1099511627776 = v / 1099511627776 := by omega
  have e4 : u / 4294967296 = v / 4294967296 := by omega
  have e5 : u / 16777216 = v / 16777216 := by omega
  have e6 : u / 65536 = v / 65536 := by omega
  have e7 : u / 256 = v / 256 := by omega
  omega
theorem u64_lt17 (n : Int) : u64 n < 18446744073709551616 := by unfold u64; omega
theorem eight_inj17 {n m : Int} (hn0 : -9223372036854775808 ≤ n) (hn1 : n ≤ 9223372036854775807) (hm0 : -9223372036854775808 ≤ m) (hm1 : m ≤ 9223372036854775807) (h : eight n = eight m) : n = m := by
  have := be_inj17 (u64_lt17 n) (u64_lt17 m) h
  unfold u64 at this
  omega
theorem xor_cancel {x y b : UInt8} (h : x ^^^ b = y ^^^ b) : x = y := by
  have := congrArg (· ^^^ b) h
  simpa [UInt8.xor_assoc] using this
theorem padk_inj {a b : List UInt8} {x : UInt8} (ha : a.length = 32) (hb : b.length = 32) (h : padk a x = padk b x) : a = b := by
  unfold padk at h
  have hf : fill a = fill b := by
    apply List.ext_getElem?
    intro i
    have hi := congrArg (·[i]?) h
    simp only [List.getElem?_map] at hi
    have h1 := fill_length a (by omega)
    have h2 := fill_length b (by omega)
    by_cases hl : i < 64
    · rw [List.getElem?_eq_getElem (by omega), List.getElem?_eq_getElem (by omega)] at hi ⊢
      simp only [Option.map_some, Option.some.injEq] at hi
      rw [xor_cancel hi]
    · rw [List.getElem?_eq_none (by omega), List.getElem?_eq_none (by omega)]
  unfold fill at hf
  exact (List.append_inj hf (by omega)).1
theorem one17 {a b ix iy L R : List UInt8} {n m : Int} (ha : a.length = 32) (hb : b.length = 32) (hix : ix.length = 32) (hiy : iy.length = 32) (hn0 : -9223372036854775808 ≤ n) (hn1 : n ≤ 9223372036854775807) (hm0 : -9223372036854775808 ≤ m) (hm1 : m ≤ 9223372036854775807)
    (he : sha (tout a ix n L) = sha (tout b iy m R)) (hne : ¬ (a = b ∧ ix = iy ∧ n = m ∧ L = R)) : clash [tin a ix n L, tout a ix n L] [tin b iy m R, tout b iy m R] = true := by
  rw [clash_iff]
  by_cases hU : tout a ix n L = tout b iy m R
  · unfold tout at hU
    obtain ⟨h1, h2⟩ := List.append_inj hU (by rw [padk_length _ _ (by omega), padk_length _ _ (by omega)])
    have hab := padk_inj ha hb h1
    refine ⟨_, .head _, _, .head _, fun hT => hne ?_, h2⟩
    unfold tin at hT
    obtain ⟨_, h3⟩ := List.append_inj hT (by rw [padk_length _ _ (by omega), padk_length _ _ (by omega)])
    obtain ⟨h4, h5⟩ := List.append_inj h3 (by omega)
    obtain ⟨h6, h7⟩ := List.append_inj h5 (by rw [eight_length, eight_length])
    exact ⟨hab, h4, eight_inj17 hn0 hn1 hm0 hm1 h6, h7⟩
  · exact ⟨_, .tail _ (.head _), _, .tail _ (.head _), hU, he⟩
theorem Rd_two {w : World} {g : Nat} {a b : Value} {t : TypeId} {fr : Nat × Nat} (h : w.heap[g]? = some (.cells #[a, b] t fr)) : Rd w 1 (.slice (some ⟨g, 0, none⟩) 2 2) 2 [a, b] := by
  refine ⟨rfl, .inr ⟨g, 0, 2, rfl, lt_of_heap h, Nat.le_refl _, by decide, fun j u hu => ?_⟩⟩
  rw [Nat.zero_add]
  match j with
  | 0 => cases hu; exact cell_two0 h
  | 1 => cases hu; exact cell_two1 h
  | j + 2 => simp at hu
set_option maxRecDepth 100000 in
set_option maxHeartbeats 8000000 in
theorem commitOne_any (a0 a1 ix iy : List UInt8) (n m : Int) (q qq : Option Addr) (c cc : Nat) (l k : List UInt8) (w : World) (hS : Sha.Tabs w) (hT : Ref.Tabs w) (ha0 : a0.length = 32) (ha1 : a1.length = 32) (hix : ix.length = 32) (hiy : iy.length = 32)
    (hl : Rd w 1 (.slice q l.length c) l.length (bys l)) (hk : Rd w 1 (.slice qq k.length cc) k.length (bys k)) (hn0 : -9223372036854775808 ≤ n) (hn1 : n ≤ 9223372036854775807) (hm0 : -9223372036854775808 ≤ m) (hm1 : m ≤ 9223372036854775807) :
    Calls Tryd.prog 4 #[.agg (bysA (a0 ++ a1)), .agg (whatA ix n (.slice q l.length c)), .agg (whatA iy m (.slice qq k.length cc))] w fun e w' => e = .returned (.bool true) ∧ Below w.heap.size w w' := by
  have HS := Lib.hid hS
  have HT := Lib.hid hT
  have HA0 := Lib.hid ha0
  have HA1 := Lib.hid ha1
  have HX := Lib.hid hix
  have HY := Lib.hid hiy
  have HN := Lib.hid (And.intro (And.intro hn0 hn1) (And.intro hm0 hm1))
  obtain ⟨wz, hwz⟩ : ∃ wz, wz = ((w.alloc (.cells (bysA (a0 ++ a1)) 35)).alloc (.cells (whatA ix n (.slice q l.length c)) 25)).alloc (.cells (whatA iy m (.slice qq k.length cc)) 25) := ⟨_, rfl⟩
  have hbz : Below w.heap.size w wz := by rw [hwz]; exact (((Below.refl _ _).alloc (Nat.le_refl _) _).alloc (by simp) _).alloc (by simp <;> omega) _
  have hrp : wz.heap[w.heap.size]? = some (.cells (bysA (a0 ++ a1)) 35 (0, 0)) := by rw [hwz]; exact (Rg.heap_alloc_past _ _ _ (by simp <;> omega)).trans ((Rg.heap_alloc_past _ _ _ (by simp)).trans (Rg.heap_alloc_at w _ _ rfl))
  have hrx : wz.heap[w.heap.size + 1]? = some (.cells (whatA ix n (.slice q l.length c)) 25 (0, 0)) := by rw [hwz]; exact (Rg.heap_alloc_past _ _ _ (by simp)).trans (Rg.heap_alloc_at _ _ _ (by simp))
  have hry : wz.heap[w.heap.size + 1 + 1]? = some (.cells (whatA iy m (.slice qq k.length cc)) 25 (0, 0)) := by rw [hwz]; exact Rg.heap_alloc_at _ _ _ (by simp)
  have HWZ := Lib.hid hwz
  have HBZ := Lib.hid hbz
  have HRP := Lib.hid hrp
  have HRX := Lib.hid hrx
  have HRY := Lib.hid hry
  have HLZ := Lib.hid (hl.below hbz)
  have HKZ := Lib.hid (hk.below hbz)
  obtain ⟨L, hL⟩ : ∃ L, L = l.take 200 := ⟨_, rfl⟩
  obtain ⟨R, hR⟩ : ∃ R, R = k.take 200 := ⟨_, rfl⟩
  have HL2 : Hid (L.length ≤ 200) := Lib.hid (by rw [hL, List.length_take]; omega)
  have HR2 : Hid (R.length ≤ 200) := Lib.hid (by rw [hR, List.length_take]; omega)
  have HLE := Lib.hid hL
  have HRE := Lib.hid hR
  clear hS hT hl hk ha0 ha1 hix hiy hwz hbz hrp hrx hry hL hR hn0 hn1 hm0 hm1
  go_enter Tryd.func4, Tryd.ntmps4
  go_wp2_with (rw [← HWZ.out])
  refine Rc.region (wz.heap.size) 4 [Rc.F 1 (fun p => .slice p.q L.length p.c) (fun p _ y => Rd y 1 (.slice p.q L.length p.c) L.length (bys L)), Rc.F 3 (fun p => .slice p.q R.length p.c) (fun p _ y => Rd y 1 (.slice p.q R.length p.c) R.length (bys R))] [1, 3] (by kernel_rfl) (Nat.le_refl _) (by kernel_rfl) ?_; intro p; simp only [List.take_succ_cons, List.take_zero, List.drop_succ_cons, List.drop_zero]
  refine Rc.r_load rfl rfl _ _ rfl (.agg (whatA ix n (.slice q l.length c))) (fun x hx => what_load (Rp.row_le (Rc.undrew hx) HRX.out) HX.out) ?_; intro K hK; go_simp; refine hK _ ?_; clear hK K
  refine Rc.fK rfl rfl rfl rfl ?_ ?_
  · intro x Fs hx hle hg K hK
    have hv := value_any ix n q c l x HX.out (HLZ.out.below (Rc.undrew hx))
    rw [← HLE.out] at hv
    go_wp2_with fail
    refine hv.mono ?_
    rintro e x' ⟨v, rfl, hown, hb⟩
    obtain ⟨q', c', rfl⟩ := Ow_form hown
    go_wp2_with fail
    exact hK ⟨q', c', undef⟩ x' hb (fun F y hF hy => Rd.of_ow (OwF.fresh hown hle hF hy).1)
  intro K hK; go_simp; refine hK _ ?_; clear hK K
  refine Rc.r_load rfl rfl _ _ rfl (.agg (whatA iy m (.slice qq k.length cc))) (fun x hx => what_load (Rp.row_le (Rc.undrew hx) HRY.out) HY.out) ?_; intro K hK; go_simp; refine hK _ ?_; clear hK K
  refine Rc.fK rfl rfl rfl rfl ?_ ?_
  · intro x Fs hx hle hg K hK
    have hv := value_any iy m qq cc k x HY.out (HKZ.out.below (Rc.undrew hx))
    rw [← HRE.out] at hv
    go_wp2_with fail
    refine hv.mono ?_
    rintro e x' ⟨v, rfl, hown, hb⟩
    obtain ⟨q', c', rfl⟩ := Ow_form hown
    go_wp2_with fail
    exact hK ⟨q', c', undef⟩ x' hb (fun F y hF hy => Rd.of_ow (OwF.fresh hown hle hF hy).1)
  intro K hK; go_simp; refine hK _ ?_; clear hK K
  refine Rc.done fun x Fs hx hle hg => ?_
  obtain ⟨q1, hq1⟩ : ∃ q1, q1 = (p 1).q := ⟨_, rfl⟩
  obtain ⟨c1, hc1⟩ : ∃ c1, c1 = (p 1).c := ⟨_, rfl⟩
  obtain ⟨q2, hq2⟩ : ∃ q2, q2 = (p 3).q := ⟨_, rfl⟩
  obtain ⟨c2, hc2⟩ : ∃ c2, c2 = (p 3).c := ⟨_, rfl⟩
  have HV1 : Hid (Rd x 1 (.slice q1 L.length c1) L.length (bys L)) := Lib.hid (by rw [hq1, hc1]; exact hg.1)
  have HW1 : Hid (Rd x 1 (.slice q2 R.length c2) R.length (bys R)) := Lib.hid (by rw [hq2, hc2]; exact hg.2.1)
  have HRP1 := Lib.hid (Rp.row_le (Rc.undrew hx) HRP.out)
  have HRX1 := Lib.hid (Rp.row_le (Rc.undrew hx) HRX.out)
  have HRY1 := Lib.hid (Rp.row_le (Rc.undrew hx) HRY.out)
  have HB1 := Lib.hid (HBZ.out.trans ((Rc.undrew hx).mono HBZ.out.size))
  rw [← hq1, ← hc1, ← hq2, ← hc2]
  clear hq1 hc1 hq2 hc2 hg hx hle HRP HRX HRY HBZ HLZ HKZ HWZ
  go_wp2_with fail
  refine NoPanic.normal ?_
  obtain ⟨M, hM⟩ : ∃ M, M = bound a0 ix n L := ⟨_, rfl⟩
  have HML : Hid (M.length = 32) := Lib.hid (by rw [hM]; exact bound_length _ _ _ _)
  have HME := Lib.hid hM
  clear hM
  have hc1' := what_version HRX1.out HX.out
  have hg1 := lt_of_heap HRX1.out
  go_wp2_with fail
  refine Rc.region (x.heap.size) 11 [Rc.F 10 (fun _ => .string ⟨M.toArray⟩) (fun _ _ _ => True)] [] (by kernel_rfl) (Nat.le_refl _) (by kernel_rfl) ?_; intro p; simp only [List.take_succ_cons, List.take_zero, List.drop_succ_cons, List.drop_zero]
  iterate 2 (refine Rc.rK rfl rfl ?_; intro K hK; apply Exists.intro; refine ⟨?_, ?_⟩; (focus (intro x hx;  go_simp; (first | (fail) | ((try go_bits); (try go_simp); (try rfl))))); go_simp; refine hK _ ?_; clear hK K)
  refine Rc.r_str rfl rfl 23 9 _ rfl 5 Tryd.underlying9 Tryd.underlying23 Tryd.underlying5 _ _ (a0) rfl (fun x hx => Rd_of_mid (l := []) (r := a0) (s := a1) (o := 0) (by simpa using (Rp.row_le (Rc.undrew hx) HRP1.out)) rfl HA0.out (by decide)) ?_; intro K hK; go_simp; refine hK _ ?_; clear hK K
  iterate 2 (refine Rc.rK rfl rfl ?_; intro K hK; apply Exists.intro; refine ⟨?_, ?_⟩; (focus (intro x hx;  go_simp; (first | (fail) | ((try go_bits); (try go_simp); (try rfl))))); go_simp; refine hK _ ?_; clear hK K)
  refine Rc.r_str rfl rfl 23 9 _ rfl 5 Tryd.underlying9 Tryd.underlying23 Tryd.underlying5 _ _ (ix) rfl (fun x hx => what_rd (Rp.row_le (Rc.undrew hx) HRX1.out) HX.out) ?_; intro K hK; go_simp; refine hK _ ?_; clear hK K
  iterate 3 (refine Rc.rK rfl rfl ?_; intro K hK; apply Exists.intro; refine ⟨?_, ?_⟩; (focus (intro x hx; have c0x := Rc.cell_le hx hg1 hc1'; go_simp; (first | (fail) | ((try go_bits); (try go_simp); (try rfl))))); go_simp; refine hK _ ?_; clear hK K)
  refine Rc.r_str rfl rfl 23 9 _ rfl 5 Tryd.underlying9 Tryd.underlying23 Tryd.underlying5 _ _ (L) rfl (fun x hx => HV1.out.below (Rc.undrew hx)) ?_; intro K hK; go_simp; refine hK _ ?_; clear hK K
  refine Rc.fK rfl rfl rfl rfl ?_ ?_
  · intro x Fs hx hle hg K hK
    go_wp2_with fail
    refine (refbound_any a0 ix n L x (HT.out.below (HB1.out.trans ((Rc.undrew hx).mono HB1.out.size))) HA0.out HX.out (by have := HL2.out; omega)).mono ?_
    rintro e x' ⟨rfl, hb⟩
    rw [← HME.out]
    go_wp2_with fail
    exact hK Rc.dflt x' hb (fun _ _ _ _ => trivial)
  intro K hK; go_simp; refine hK _ ?_; clear hK K
  refine Rc.done fun x Fs hx hle hg => ?_
  have HV2 := Lib.hid (HV1.out.below (Rc.undrew hx))
  have HW2 := Lib.hid (HW1.out.below (Rc.undrew hx))
  have HRP2 := Lib.hid (Rp.row_le (Rc.undrew hx) HRP1.out)
  have HRX2 := Lib.hid (Rp.row_le (Rc.undrew hx) HRX1.out)
  have HRY2 := Lib.hid (Rp.row_le (Rc.undrew hx) HRY1.out)
  have HB2 := Lib.hid (HB1.out.trans ((Rc.undrew hx).mono HB1.out.size))
  clear hx hle hg hc1' hg1 HV1 HW1 HRP1 HRX1 HRY1 HB1
  go_wp2_with fail
  refine NoPanic.normal ?_
  go_wp2_with fail
  obtain ⟨w3, hw3⟩ : ∃ w3, w3 = x.alloc (.cells (bysA zeros32) 22) := ⟨_, rfl⟩
  have hb3 : Below x.heap.size x w3 := by rw [hw3]; exact (Below.refl _ _).alloc (Nat.le_refl _) _
  have hr3 : w3.heap[x.heap.size]? = some (.cells (bysA zeros32) 22 (0, 0)) := by rw [hw3]; exact Rg.heap_alloc_at _ _ _ rfl
  rw [z32, ← hw3, copy_str hr3 rfl HML.out]
  obtain ⟨w4, hw4⟩ : ∃ w4, w4 = w3.setRow x.heap.size (bysA M) := ⟨_, rfl⟩
  have hr4 : w4.heap[x.heap.size]? = some (.cells (bysA M) 22 (0, 0)) := by rw [hw4]; exact setRow_heap _ _ _ _ _ _ hr3
  have hb4 : Below x.heap.size x w4 := by rw [hw4]; exact Rg.below_setRow hb3 (Nat.le_refl _) _
  have HIM : Hid ((Tryd.prog.info? 22).map (·.size) = some (bysA M).size) := Lib.hid (by rw [bysA_size, HML.out]; exact info32)
  rw [← hw4]
  have HR4 := Lib.hid hr4
  have HV4 := Lib.hid (HV2.out.below hb4)
  have HW4 := Lib.hid (HW2.out.below hb4)
  have HRP4 := Lib.hid (Rp.row_le hb4 HRP2.out)
  have HRX4 := Lib.hid (Rp.row_le hb4 HRX2.out)
  have HRY4 := Lib.hid (Rp.row_le hb4 HRY2.out)
  have HB4 := Lib.hid (HB2.out.trans (hb4.mono HB2.out.size))
  clear hw3 hb3 hr3 hw4 hr4 hb4 HV2 HW2 HRP2 HRX2 HRY2 HB2
  go_wp2_with fail
  refine (binds_any w4 (HS.out.below HB4.out)).mono ?_
  rintro e w5 ⟨rfl, hb5⟩
  have HR5 := Lib.hid (Rp.row_le hb5 HR4.out)
  have HV5 := Lib.hid (HV4.out.below hb5)
  have HW5 := Lib.hid (HW4.out.below hb5)
  have HRP5 := Lib.hid (Rp.row_le hb5 HRP4.out)
  have HRX5 := Lib.hid (Rp.row_le hb5 HRX4.out)
  have HRY5 := Lib.hid (Rp.row_le hb5 HRY4.out)
  have HB5 := Lib.hid (HB4.out.trans (hb5.mono HB4.out.size))
  clear hb5 HR4 HV4 HW4 HRP4 HRX4 HRY4 HB4
  have c32 := what_version HRY5.out HY.out
  go_wp2_with (first | (refine wpList_load_row rfl 22 _ rfl x.heap.size rfl 22 (bysA M) (0, 0) _ HR5.out Tryd.underlying22 rfl HIM.out ?_) | (refine l_load rfl _ _ rfl _ (load_mid (l := a0) (r := a1) (s := []) (o := 32) (by simpa using HRP5.out) HA0.out HA1.out) ?_) | (refine l_load rfl _ _ rfl _ (what_index HRY5.out HY.out) ?_))
  refine (ccheck_any M a1 iy m q2 c2 R w5 (HS.out.below HB5.out) HML.out HA1.out HY.out HW5.out (by have := HR2.out; omega)).mono ?_
  rintro e w6 ⟨rfl, hb6⟩
  have HV6 := Lib.hid (HV5.out.below hb6)
  have HW6 := Lib.hid (HW5.out.below hb6)
  have HRP6 := Lib.hid (Rp.row_le hb6 HRP5.out)
  have HRX6 := Lib.hid (Rp.row_le hb6 HRX5.out)
  have HRY6 := Lib.hid (Rp.row_le hb6 HRY5.out)
  have HB6 := Lib.hid (HB5.out.trans (hb6.mono HB5.out.size))
  clear hb6 HR5 HV5 HW5 HRP5 HRX5 HRY5 HB5 c32
  by_cases hmm : bound a1 iy m R = M
  · have hck : cchk M a1 iy m R = 0 := by unfold cchk; rw [hmm, if_pos (by simp)]
    rw [hck]
    have HMM := Lib.hid hmm
    have hn1 := what_version HRX6.out HX.out
    have hn2 := what_version HRY6.out HY.out
    have HLA0 := Lib.hid (load_mid (w := w6) (l := []) (r := a0) (s := a1) (o := 0) (by simpa using HRP6.out) rfl HA0.out)
    have HLA1 := Lib.hid (load_mid (w := w6) (l := a0) (r := a1) (s := []) (o := 32) (by simpa using HRP6.out) HA0.out HA1.out)
    have HLX0 := Lib.hid (what_index HRX6.out HX.out)
    have HLY0 := Lib.hid (what_index HRY6.out HY.out)
    have ha0 := HA0.out
    have ha1 := HA1.out
    have hxl := HX.out
    have hyl := HY.out
    clear hck hmm
    cases h1 : (a0 == a1) with
    | false =>
      have HNE : Hid (¬ (a0 = a1 ∧ ix = iy ∧ n = m ∧ L = R)) := Lib.hid (fun h => by rw [h.1] at h1; simp at h1)
      go_wp2_with (first | (refine unguard (by rfl) ?_; refine l_load rfl _ _ rfl _ HLA0.out ?_) | (refine unguard (by rfl) ?_; refine l_load rfl _ _ rfl _ HLA1.out ?_))
      clear h1 ha0 ha1 hxl hyl hn1 hn2
      have d1 := what_version HRX6.out HX.out
      have d2 := what_version HRY6.out HY.out
      have e1 := lt_of_heap HRX6.out
      have e2 := lt_of_heap HRY6.out
      obtain ⟨T1, hT1⟩ : ∃ T1, T1 = tin a0 ix n L := ⟨_, rfl⟩
      obtain ⟨U1, hU1⟩ : ∃ U1, U1 = tout a0 ix n L := ⟨_, rfl⟩
      obtain ⟨T2, hT2⟩ : ∃ T2, T2 = tin a1 iy m R := ⟨_, rfl⟩
      obtain ⟨U2, hU2⟩ : ∃ U2, U2 = tout a1 iy m R := ⟨_, rfl⟩
      have HCL : Hid (clash [T1, U1] [T2, U2] = true) := Lib.hid (by
        rw [hT1, hU1, hT2, hU2]
        exact one17 HA0.out HA1.out HX.out HY.out HN.out.1.1 HN.out.1.2 HN.out.2.1 HN.out.2.2 (by rw [sha_tout HA0.out, sha_tout HA1.out, ← HME.out]; exact HMM.out.symm) HNE.out)
      have HS1 : Hid (∀ x ∈ [T1, U1], x.length ≤ 70368744177664) := Lib.hid (by
        have h1 := tin_length a0 ix n L HA0.out
        have h2 := tout_length a0 ix n L HA0.out
        rw [← hT1, HX.out] at h1
        rw [← hU1] at h2
        have := HL2.out
        intro x hx
        simp only [List.mem_cons, List.not_mem_nil, or_false] at hx
        rcases hx with rfl | rfl <;> omega)
      have HS2 : Hid (∀ x ∈ [T2, U2], x.length ≤ 70368744177664) := Lib.hid (by
        have h1 := tin_length a1 iy m R HA1.out
        have h2 := tout_length a1 iy m R HA1.out
        rw [← hT2, HY.out] at h1
        rw [← hU2] at h2
        have := HR2.out
        intro x hx
        simp only [List.mem_cons, List.not_mem_nil, or_false] at hx
        rcases hx with rfl | rfl <;> omega)
      have HT1 := Lib.hid hT1
      have HU1 := Lib.hid hU1
      have HT2 := Lib.hid hT2
      have HU2 := Lib.hid hU2
      clear hT1 hU1 hT2 hU2
      refine Rc.region (w6.heap.size) 23 [Rc.F 10 (fun p => .slice p.q 2 2) (fun p _ y => Rd y 1 (.slice p.q 2 2) 2 (strs [T1, U1])), Rc.F 21 (fun p => .slice p.q 2 2) (fun p _ y => Rd y 1 (.slice p.q 2 2) 2 (strs [T2, U2])), Rc.G 22 [10, 21] (fun _ => .bool true) (fun _ _ _ => True)] [] (by kernel_rfl) (Nat.le_refl _) (by kernel_rfl) ?_; intro p; simp only [List.take_succ_cons, List.take_zero, List.drop_succ_cons, List.drop_zero]
      iterate 2 (refine Rc.rK rfl rfl ?_; intro K hK; apply Exists.intro; refine ⟨?_, ?_⟩; (focus (intro x hx;  go_simp; (first | (fail) | ((try go_bits); (try go_simp); (try rfl))))); go_simp; refine hK _ ?_; clear hK K)
      refine Rc.r_str rfl rfl 23 9 _ rfl 5 Tryd.underlying9 Tryd.underlying23 Tryd.underlying5 _ _ (a0) rfl (fun x hx => Rd_of_mid (l := []) (r := a0) (s := a1) (o := 0) (by simpa using (Rp.row_le (Rc.undrew hx) HRP6.out)) rfl HA0.out (by decide)) ?_; intro K hK; go_simp; refine hK _ ?_; clear hK K
      iterate 2 (refine Rc.rK rfl rfl ?_; intro K hK; apply Exists.intro; refine ⟨?_, ?_⟩; (focus (intro x hx;  go_simp; (first | (fail) | ((try go_bits); (try go_simp); (try rfl))))); go_simp; refine hK _ ?_; clear hK K)
      refine Rc.r_str rfl rfl 23 9 _ rfl 5 Tryd.underlying9 Tryd.underlying23 Tryd.underlying5 _ _ (ix) rfl (fun x hx => what_rd (Rp.row_le (Rc.undrew hx) HRX6.out) HX.out) ?_; intro K hK; go_simp; refine hK _ ?_; clear hK K
      iterate 3 (refine Rc.rK rfl rfl ?_; intro K hK; apply Exists.intro; refine ⟨?_, ?_⟩; (focus (intro x hx; have c0x := Rc.cell_le hx e1 d1; go_simp; (first | (fail) | ((try go_bits); (try go_simp); (try rfl))))); go_simp; refine hK _ ?_; clear hK K)
      refine Rc.r_str rfl rfl 23 9 _ rfl 5 Tryd.underlying9 Tryd.underlying23 Tryd.underlying5 _ _ (L) rfl (fun x hx => HV6.out.below (Rc.undrew hx)) ?_; intro K hK; go_simp; refine hK _ ?_; clear hK K
      refine Rc.fK rfl rfl rfl rfl ?_ ?_
      · intro x Fs hx hle hg K hK
        go_wp2_with fail
        refine (texts17_any a0 ix n L x (HT.out.below (HB6.out.trans ((Rc.undrew hx).mono HB6.out.size))) HA0.out HX.out (by have := HL2.out; omega)).mono ?_
        rintro e x' ⟨g, rfl, hgs, hrow, hb⟩
        rw [← HT1.out, ← HU1.out] at hrow
        have HRW := Lib.hid (Rd_two hrow)
        have HGS := Lib.hid (And.intro hgs (lt_of_heap hrow))
        clear hrow hgs
        go_wp2_with fail
        exact hK ⟨some ⟨g, 0, none⟩, 0, undef⟩ x' hb (fun F y hF hy => HRW.out.keeps hy (fun k hk => .inr (by cases hk; exact hF _ HGS.out.1 HGS.out.2)))
      intro K hK; go_simp; refine hK _ ?_; clear hK K
      iterate 2 (refine Rc.rK rfl rfl ?_; intro K hK; apply Exists.intro; refine ⟨?_, ?_⟩; (focus (intro x hx;  go_simp; (first | (fail) | ((try go_bits); (try go_simp); (try rfl))))); go_simp; refine hK _ ?_; clear hK K)
      refine Rc.r_str rfl rfl 23 9 _ rfl 5 Tryd.underlying9 Tryd.underlying23 Tryd.underlying5 _ _ (a1) rfl (fun x hx => Rd_of_mid (l := a0) (r := a1) (s := []) (o := 32) (by simpa using (Rp.row_le (Rc.undrew hx) HRP6.out)) HA0.out HA1.out (by decide)) ?_; intro K hK; go_simp; refine hK _ ?_; clear hK K
      iterate 2 (refine Rc.rK rfl rfl ?_; intro K hK; apply Exists.intro; refine ⟨?_, ?_⟩; (focus (intro x hx;  go_simp; (first | (fail) | ((try go_bits); (try go_simp); (try rfl))))); go_simp; refine hK _ ?_; clear hK K)
      refine Rc.r_str rfl rfl 23 9 _ rfl 5 Tryd.underlying9 Tryd.underlying23 Tryd.underlying5 _ _ (iy) rfl (fun x hx => what_rd (Rp.row_le (Rc.undrew hx) HRY6.out) HY.out) ?_; intro K hK; go_simp; refine hK _ ?_; clear hK K
      iterate 3 (refine Rc.rK rfl rfl ?_; intro K hK; apply Exists.intro; refine ⟨?_, ?_⟩; (focus (intro x hx; have c0x := Rc.cell_le hx e2 d2; go_simp; (first | (fail) | ((try go_bits); (try go_simp); (try rfl))))); go_simp; refine hK _ ?_; clear hK K)
      refine Rc.r_str rfl rfl 23 9 _ rfl 5 Tryd.underlying9 Tryd.underlying23 Tryd.underlying5 _ _ (R) rfl (fun x hx => HW6.out.below (Rc.undrew hx)) ?_; intro K hK; go_simp; refine hK _ ?_; clear hK K
      refine Rc.fK rfl rfl rfl rfl ?_ ?_
      · intro x Fs hx hle hg K hK
        go_wp2_with fail
        refine (texts17_any a1 iy m R x (HT.out.below (HB6.out.trans ((Rc.undrew hx).mono HB6.out.size))) HA1.out HY.out (by have := HR2.out; omega)).mono ?_
        rintro e x' ⟨g, rfl, hgs, hrow, hb⟩
        rw [← HT2.out, ← HU2.out] at hrow
        have HRW := Lib.hid (Rd_two hrow)
        have HGS := Lib.hid (And.intro hgs (lt_of_heap hrow))
        clear hrow hgs
        go_wp2_with fail
        exact hK ⟨some ⟨g, 0, none⟩, 0, undef⟩ x' hb (fun F y hF hy => HRW.out.keeps hy (fun k hk => .inr (by cases hk; exact hF _ HGS.out.1 HGS.out.2)))
      intro K hK; go_simp; refine hK _ ?_; clear hK K
      refine Rc.fK rfl rfl rfl rfl ?_ ?_
      · intro x Fs hx hle hg K hK
        have h1 : Rd x 1 (.slice (p 10).q 2 2) 2 (strs [T1, U1]) := hg.1
        have h2 : Rd x 1 (.slice (p 21).q 2 2) 2 (strs [T2, U2]) := hg.2.1
        have hc := clash_any (p 10).q (p 21).q 2 2 [T1, U1] [T2, U2] x (HT.out.below (HB6.out.trans ((Rc.undrew hx).mono HB6.out.size))) h1 h2 HS1.out HS2.out
        rw [HCL.out] at hc
        simp only [List.length_cons, List.length_nil, Nat.zero_add, Nat.reduceAdd] at hc
        have HC := Lib.hid hc
        clear hc h1 h2 hg
        go_wp2_with fail
        refine HC.out.mono ?_
        rintro e x' ⟨rfl, hb⟩
        go_wp2_with fail
        exact hK Rc.dflt x' hb (fun _ _ _ _ => trivial)
      intro K hK; go_simp; refine hK _ ?_; clear hK K
      refine Rc.done fun x Fs hx hle hg => ?_
      have HB9 := Lib.hid (HB6.out.trans ((Rc.undrew hx).mono HB6.out.size))
      clear hx hle hg
      go_wp2_with fail
      refine NoPanic.normal ?_
      go_wp2_with fail
      go_ret
      exact ⟨rfl, HB9.out⟩
    | true =>
      cases h2 : (ix == iy) with
      | false =>
        have HNE : Hid (¬ (a0 = a1 ∧ ix = iy ∧ n = m ∧ L = R)) := Lib.hid (fun h => by rw [h.2.1] at h2; simp at h2)
        go_wp2_with (first | (refine unguard (by rfl) ?_; refine l_load rfl _ _ rfl _ HLA0.out ?_) | (refine unguard (by rfl) ?_; refine l_load rfl _ _ rfl _ HLA1.out ?_) | (refine unguard (by rfl) ?_; refine l_load rfl _ _ rfl _ HLX0.out ?_) | (refine unguard (by rfl) ?_; refine l_load rfl _ _ rfl _ HLY0.out ?_))
        clear h1 h2 ha0 ha1 hxl hyl hn1 hn2
        have d1 := what_version HRX6.out HX.out
        have d2 := what_version HRY6.out HY.out
        have e1 := lt_of_heap HRX6.out
        have e2 := lt_of_heap HRY6.out
        obtain ⟨T1, hT1⟩ : ∃ T1, T1 = tin a0 ix n L := ⟨_, rfl⟩
        obtain ⟨U1, hU1⟩ : ∃ U1, U1 = tout a0 ix n L := ⟨_, rfl⟩
        obtain ⟨T2, hT2⟩ : ∃ T2, T2 = tin a1 iy m R := ⟨_, rfl⟩
        obtain ⟨U2, hU2⟩ : ∃ U2, U2 = tout a1 iy m R := ⟨_, rfl⟩
        have HCL : Hid (clash [T1, U1] [T2, U2] = true) := Lib.hid (by
          rw [hT1, hU1, hT2, hU2]
          exact one17 HA0.out HA1.out HX.out HY.out HN.out.1.1 HN.out.1.2 HN.out.2.1 HN.out.2.2 (by rw [sha_tout HA0.out, sha_tout HA1.out, ← HME.out]; exact HMM.out.symm) HNE.out)
        have HS1 : Hid (∀ x ∈ [T1, U1], x.length ≤ 70368744177664) := Lib.hid (by
          have h1 := tin_length a0 ix n L HA0.out
          have h2 := tout_length a0 ix n L HA0.out
          rw [← hT1, HX.out] at h1
          rw [← hU1] at h2
          have := HL2.out
          intro x hx
          simp only [List.mem_cons, List.not_mem_nil, or_false] at hx
          rcases hx with rfl | rfl <;> omega)
        have HS2 : Hid (∀ x ∈ [T2, U2], x.length ≤ 70368744177664) := Lib.hid (by
          have h1 := tin_length a1 iy m R HA1.out
          have h2 := tout_length a1 iy m R HA1.out
          rw [← hT2, HY.out] at h1
          rw [← hU2] at h2
          have := HR2.out
          intro x hx
          simp only [List.mem_cons, List.not_mem_nil, or_false] at hx
          rcases hx with rfl | rfl <;> omega)
        have HT1 := Lib.hid hT1
        have HU1 := Lib.hid hU1
        have HT2 := Lib.hid hT2
        have HU2 := Lib.hid hU2
        clear hT1 hU1 hT2 hU2
        refine Rc.region (w6.heap.size) 23 [Rc.F 10 (fun p => .slice p.q 2 2) (fun p _ y => Rd y 1 (.slice p.q 2 2) 2 (strs [T1, U1])), Rc.F 21 (fun p => .slice p.q 2 2) (fun p _ y => Rd y 1 (.slice p.q 2 2) 2 (strs [T2, U2])), Rc.G 22 [10, 21] (fun _ => .bool true) (fun _ _ _ => True)] [] (by kernel_rfl) (Nat.le_refl _) (by kernel_rfl) ?_; intro p; simp only [List.take_succ_cons, List.take_zero, List.drop_succ_cons, List.drop_zero]
        iterate 2 (refine Rc.rK rfl rfl ?_; intro K hK; apply Exists.intro; refine ⟨?_, ?_⟩; (focus (intro x hx;  go_simp; (first | (fail) | ((try go_bits); (try go_simp); (try rfl))))); go_simp; refine hK _ ?_; clear hK K)
        refine Rc.r_str rfl rfl 23 9 _ rfl 5 Tryd.underlying9 Tryd.underlying23 Tryd.underlying5 _ _ (a0) rfl (fun x hx => Rd_of_mid (l := []) (r := a0) (s := a1) (o := 0) (by simpa using (Rp.row_le (Rc.undrew hx) HRP6.out)) rfl HA0.out (by decide)) ?_; intro K hK; go_simp; refine hK _ ?_; clear hK K
        iterate 2 (refine Rc.rK rfl rfl ?_; intro K hK; apply Exists.intro; refine ⟨?_, ?_⟩; (focus (intro x hx;  go_simp; (first | (fail) | ((try go_bits); (try go_simp); (try rfl))))); go_simp; refine hK _ ?_; clear hK K)
        refine Rc.r_str rfl rfl 23 9 _ rfl 5 Tryd.underlying9 Tryd.underlying23 Tryd.underlying5 _ _ (ix) rfl (fun x hx => what_rd (Rp.row_le (Rc.undrew hx) HRX6.out) HX.out) ?_; intro K hK; go_simp; refine hK _ ?_; clear hK K
        iterate 3 (refine Rc.rK rfl rfl ?_; intro K hK; apply Exists.intro; refine ⟨?_, ?_⟩; (focus (intro x hx; have c0x := Rc.cell_le hx e1 d1; go_simp; (first | (fail) | ((try go_bits); (try go_simp); (try rfl))))); go_simp; refine hK _ ?_; clear hK K)
        refine Rc.r_str rfl rfl 23 9 _ rfl 5 Tryd.underlying9 Tryd.underlying23 Tryd.underlying5 _ _ (L) rfl (fun x hx => HV6.out.below (Rc.undrew hx)) ?_; intro K hK; go_simp; refine hK _ ?_; clear hK K
        refine Rc.fK rfl rfl rfl rfl ?_ ?_
        · intro x Fs hx hle hg K hK
          go_wp2_with fail
          refine (texts17_any a0 ix n L x (HT.out.below (HB6.out.trans ((Rc.undrew hx).mono HB6.out.size))) HA0.out HX.out (by have := HL2.out; omega)).mono ?_
          rintro e x' ⟨g, rfl, hgs, hrow, hb⟩
          rw [← HT1.out, ← HU1.out] at hrow
          have HRW := Lib.hid (Rd_two hrow)
          have HGS := Lib.hid (And.intro hgs (lt_of_heap hrow))
          clear hrow hgs
          go_wp2_with fail
          exact hK ⟨some ⟨g, 0, none⟩, 0, undef⟩ x' hb (fun F y hF hy => HRW.out.keeps hy (fun k hk => .inr (by cases hk; exact hF _ HGS.out.1 HGS.out.2)))
        intro K hK; go_simp; refine hK _ ?_; clear hK K
        iterate 2 (refine Rc.rK rfl rfl ?_; intro K hK; apply Exists.intro; refine ⟨?_, ?_⟩; (focus (intro x hx;  go_simp; (first | (fail) | ((try go_bits); (try go_simp); (try rfl))))); go_simp; refine hK _ ?_; clear hK K)
        refine Rc.r_str rfl rfl 23 9 _ rfl 5 Tryd.underlying9 Tryd.underlying23 Tryd.underlying5 _ _ (a1) rfl (fun x hx => Rd_of_mid (l := a0) (r := a1) (s := []) (o := 32) (by simpa using (Rp.row_le (Rc.undrew hx) HRP6.out)) HA0.out HA1.out (by decide)) ?_; intro K hK; go_simp; refine hK _ ?_; clear hK K
        iterate 2 (refine Rc.rK rfl rfl ?_; intro K hK; apply Exists.intro; refine ⟨?_, ?_⟩; (focus (intro x hx;  go_simp; (first | (fail) | ((try go_bits); (try go_simp); (try rfl))))); go_simp; refine hK _ ?_; clear hK K)
        refine Rc.r_str rfl rfl 23 9 _ rfl 5 Tryd.underlying9 Tryd.underlying23 Tryd.underlying5 _ _ (iy) rfl (fun x hx => what_rd (Rp.row_le (Rc.undrew hx) HRY6.out) HY.out) ?_; intro K hK; go_simp; refine hK _ ?_; clear hK K
        iterate 3 (refine Rc.rK rfl rfl ?_; intro K hK; apply Exists.intro; refine ⟨?_, ?_⟩; (focus (intro x hx; have c0x := Rc.cell_le hx e2 d2; go_simp; (first | (fail) | ((try go_bits); (try go_simp); (try rfl))))); go_simp; refine hK _ ?_; clear hK K)
        refine Rc.r_str rfl rfl 23 9 _ rfl 5 Tryd.underlying9 Tryd.underlying23 Tryd.underlying5 _ _ (R) rfl (fun x hx => HW6.out.below (Rc.undrew hx)) ?_; intro K hK; go_simp; refine hK _ ?_; clear hK K
        refine Rc.fK rfl rfl rfl rfl ?_ ?_
        · intro x Fs hx hle hg K hK
          go_wp2_with fail
          refine (texts17_any a1 iy m R x (HT.out.below (HB6.out.trans ((Rc.undrew hx).mono HB6.out.size))) HA1.out HY.out (by have := HR2.out; omega)).mono ?_
          rintro e x' ⟨g, rfl, hgs, hrow, hb⟩
          rw [← HT2.out, ← HU2.out] at hrow
          have HRW := Lib.hid (Rd_two hrow)
          have HGS := Lib.hid (And.intro hgs (lt_of_heap hrow))
          clear hrow hgs
          go_wp2_with fail
          exact hK ⟨some ⟨g, 0, none⟩, 0, undef⟩ x' hb (fun F y hF hy => HRW.out.keeps hy (fun k hk => .inr (by cases hk; exact hF _ HGS.out.1 HGS.out.2)))
        intro K hK; go_simp; refine hK _ ?_; clear hK K
        refine Rc.fK rfl rfl rfl rfl ?_ ?_
        · intro x Fs hx hle hg K hK
          have h1 : Rd x 1 (.slice (p 10).q 2 2) 2 (strs [T1, U1]) := hg.1
          have h2 : Rd x 1 (.slice (p 21).q 2 2) 2 (strs [T2, U2]) := hg.2.1
          have hc := clash_any (p 10).q (p 21).q 2 2 [T1, U1] [T2, U2] x (HT.out.below (HB6.out.trans ((Rc.undrew hx).mono HB6.out.size))) h1 h2 HS1.out HS2.out
          rw [HCL.out] at hc
          simp only [List.length_cons, List.length_nil, Nat.zero_add, Nat.reduceAdd] at hc
          have HC := Lib.hid hc
          clear hc h1 h2 hg
          go_wp2_with fail
          refine HC.out.mono ?_
          rintro e x' ⟨rfl, hb⟩
          go_wp2_with fail
          exact hK Rc.dflt x' hb (fun _ _ _ _ => trivial)
        intro K hK; go_simp; refine hK _ ?_; clear hK K
        refine Rc.done fun x Fs hx hle hg => ?_
        have HB9 := Lib.hid (HB6.out.trans ((Rc.undrew hx).mono HB6.out.size))
        clear hx hle hg
        go_wp2_with fail
        refine NoPanic.normal ?_
        go_wp2_with fail
        go_ret
        exact ⟨rfl, HB9.out⟩
      | true =>
        cases h3 : (n == m) with
        | false =>
          have HNE : Hid (¬ (a0 = a1 ∧ ix = iy ∧ n = m ∧ L = R)) := Lib.hid (fun h => by rw [h.2.2.1] at h3; simp at h3)
          go_wp2_with (first | (refine unguard (by rfl) ?_; refine l_load rfl _ _ rfl _ HLA0.out ?_) | (refine unguard (by rfl) ?_; refine l_load rfl _ _ rfl _ HLA1.out ?_) | (refine unguard (by rfl) ?_; refine l_load rfl _ _ rfl _ HLX0.out ?_) | (refine unguard (by rfl) ?_; refine l_load rfl _ _ rfl _ HLY0.out ?_))
          clear h1 h2 h3 ha0 ha1 hxl hyl hn1 hn2
          have d1 := what_version HRX6.out HX.out
          have d2 := what_version HRY6.out HY.out
          have e1 := lt_of_heap HRX6.out
          have e2 := lt_of_heap HRY6.out
          obtain ⟨T1, hT1⟩ : ∃ T1, T1 = tin a0 ix n L := ⟨_, rfl⟩
          obtain ⟨U1, hU1⟩ : ∃ U1, U1 = tout a0 ix n L := ⟨_, rfl⟩
          obtain ⟨T2, hT2⟩ : ∃ T2, T2 = tin a1 iy m R := ⟨_, rfl⟩
          obtain ⟨U2, hU2⟩ : ∃ U2, U2 = tout a1 iy m R := ⟨_, rfl⟩
          have HCL : Hid (clash [T1, U1] [T2, U2] = true) := Lib.hid (by
            rw [hT1, hU1, hT2, hU2]
            exact one17 HA0.out HA1.out HX.out HY.out HN.out.1.1 HN.out.1.2 HN.out.2.1 HN.out.2.2 (by rw [sha_tout HA0.out, sha_tout HA1.out, ← HME.out]; exact HMM.out.symm) HNE.out)
          have HS1 : Hid (∀ x ∈ [T1, U1], x.length ≤ 70368744177664) := Lib.hid (by
            have h1 := tin_length a0 ix n L HA0.out
            have h2 := tout_length a0 ix n L HA0.out
            rw [← hT1, HX.out] at h1
            rw [← hU1] at h2
            have := HL2.out
            intro x hx
            simp only [List.mem_cons, List.not_mem_nil, or_false] at hx
            rcases hx with rfl | rfl <;> omega)
          have HS2 : Hid (∀ x ∈ [T2, U2], x.length ≤ 70368744177664) := Lib.hid (by
            have h1 := tin_length a1 iy m R HA1.out
            have h2 := tout_length a1 iy m R HA1.out
            rw [← hT2, HY.out] at h1
            rw [← hU2] at h2
            have := HR2.out
            intro x hx
            simp only [List.mem_cons, List.not_mem_nil, or_false] at hx
            rcases hx with rfl | rfl <;> omega)
          have HT1 := Lib.hid hT1
          have HU1 := Lib.hid hU1
          have HT2 := Lib.hid hT2
          have HU2 := Lib.hid hU2
          clear hT1 hU1 hT2 hU2
          refine Rc.region (w6.heap.size) 23 [Rc.F 10 (fun p => .slice p.q 2 2) (fun p _ y => Rd y 1 (.slice p.q 2 2) 2 (strs [T1, U1])), Rc.F 21 (fun p => .slice p.q 2 2) (fun p _ y => Rd y 1 (.slice p.q 2 2) 2 (strs [T2, U2])), Rc.G 22 [10, 21] (fun _ => .bool true) (fun _ _ _ => True)] [] (by kernel_rfl) (Nat.le_refl _) (by kernel_rfl) ?_; intro p; simp only [List.take_succ_cons, List.take_zero, List.drop_succ_cons, List.drop_zero]
          iterate 2 (refine Rc.rK rfl rfl ?_; intro K hK; apply Exists.intro; refine ⟨?_, ?_⟩; (focus (intro x hx;  go_simp; (first | (fail) | ((try go_bits); (try go_simp); (try rfl))))); go_simp; refine hK _ ?_; clear hK K)
          refine Rc.r_str rfl rfl 23 9 _ rfl 5 Tryd.underlying9 Tryd.underlying23 Tryd.underlying5 _ _ (a0) rfl (fun x hx => Rd_of_mid (l := []) (r := a0) (s := a1) (o := 0) (by simpa using (Rp.row_le (Rc.undrew hx) HRP6.out)) rfl HA0.out (by decide)) ?_; intro K hK; go_simp; refine hK _ ?_; clear hK K
          iterate 2 (refine Rc.rK rfl rfl ?_; intro K hK; apply Exists.intro; refine ⟨?_, ?_⟩; (focus (intro x hx;  go_simp; (first | (fail) | ((try go_bits); (try go_simp); (try rfl))))); go_simp; refine hK _ ?_; clear hK K)
          refine Rc.r_str rfl rfl 23 9 _ rfl 5 Tryd.underlying9 Tryd.underlying23 Tryd.underlying5 _ _ (ix) rfl (fun x hx => what_rd (Rp.row_le (Rc.undrew hx) HRX6.out) HX.out) ?_; intro K hK; go_simp; refine hK _ ?_; clear hK K
          iterate 3 (refine Rc.rK rfl rfl ?_; intro K hK; apply Exists.intro; refine ⟨?_, ?_⟩; (focus (intro x hx; have c0x := Rc.cell_le hx e1 d1; go_simp; (first | (fail) | ((try go_bits); (try go_simp); (try rfl))))); go_simp; refine hK _ ?_; clear hK K)
          refine Rc.r_str rfl rfl 23 9 _ rfl 5 Tryd.underlying9 Tryd.underlying23 Tryd.underlying5 _ _ (L) rfl (fun x hx => HV6.out.below (Rc.undrew hx)) ?_; intro K hK; go_simp; refine hK _ ?_; clear hK K
          refine Rc.fK rfl rfl rfl rfl ?_ ?_
          · intro x Fs hx hle hg K hK
            go_wp2_with fail
            refine (texts17_any a0 ix n L x (HT.out.below (HB6.out.trans ((Rc.undrew hx).mono HB6.out.size))) HA0.out HX.out (by have := HL2.out; omega)).mono ?_
            rintro e x' ⟨g, rfl, hgs, hrow, hb⟩
            rw [← HT1.out, ← HU1.out] at hrow
            have HRW := Lib.hid (Rd_two hrow)
            have HGS := Lib.hid (And.intro hgs (lt_of_heap hrow))
            clear hrow hgs
            go_wp2_with fail
            exact hK ⟨some ⟨g, 0, none⟩, 0, undef⟩ x' hb (fun F y hF hy => HRW.out.keeps hy (fun k hk => .inr (by cases hk; exact hF _ HGS.out.1 HGS.out.2)))
          intro K hK; go_simp; refine hK _ ?_; clear hK K
          iterate 2 (refine Rc.rK rfl rfl ?_; intro K hK; apply Exists.intro; refine ⟨?_, ?_⟩; (focus (intro x hx;  go_simp; (first | (fail) | ((try go_bits); (try go_simp); (try rfl))))); go_simp; refine hK _ ?_; clear hK K)
          refine Rc.r_str rfl rfl 23 9 _ rfl 5 Tryd.underlying9 Tryd.underlying23 Tryd.underlying5 _ _ (a1) rfl (fun x hx => Rd_of_mid (l := a0) (r := a1) (s := []) (o := 32) (by simpa using (Rp.row_le (Rc.undrew hx) HRP6.out)) HA0.out HA1.out (by decide)) ?_; intro K hK; go_simp; refine hK _ ?_; clear hK K
          iterate 2 (refine Rc.rK rfl rfl ?_; intro K hK; apply Exists.intro; refine ⟨?_, ?_⟩; (focus (intro x hx;  go_simp; (first | (fail) | ((try go_bits); (try go_simp); (try rfl))))); go_simp; refine hK _ ?_; clear hK K)
          refine Rc.r_str rfl rfl 23 9 _ rfl 5 Tryd.underlying9 Tryd.underlying23 Tryd.underlying5 _ _ (iy) rfl (fun x hx => what_rd (Rp.row_le (Rc.undrew hx) HRY6.out) HY.out) ?_; intro K hK; go_simp; refine hK _ ?_; clear hK K
          iterate 3 (refine Rc.rK rfl rfl ?_; intro K hK; apply Exists.intro; refine ⟨?_, ?_⟩; (focus (intro x hx; have c0x := Rc.cell_le hx e2 d2; go_simp; (first | (fail) | ((try go_bits); (try go_simp); (try rfl))))); go_simp; refine hK _ ?_; clear hK K)
          refine Rc.r_str rfl rfl 23 9 _ rfl 5 Tryd.underlying9 Tryd.underlying23 Tryd.underlying5 _ _ (R) rfl (fun x hx => HW6.out.below (Rc.undrew hx)) ?_; intro K hK; go_simp; refine hK _ ?_; clear hK K
          refine Rc.fK rfl rfl rfl rfl ?_ ?_
          · intro x Fs hx hle hg K hK
            go_wp2_with fail
            refine (texts17_any a1 iy m R x (HT.out.below (HB6.out.trans ((Rc.undrew hx).mono HB6.out.size))) HA1.out HY.out (by have := HR2.out; omega)).mono ?_
            rintro e x' ⟨g, rfl, hgs, hrow, hb⟩
            rw [← HT2.out, ← HU2.out] at hrow
            have HRW := Lib.hid (Rd_two hrow)
            have HGS := Lib.hid (And.intro hgs (lt_of_heap hrow))
            clear hrow hgs
            go_wp2_with fail
            exact hK ⟨some ⟨g, 0, none⟩, 0, undef⟩ x' hb (fun F y hF hy => HRW.out.keeps hy (fun k hk => .inr (by cases hk; exact hF _ HGS.out.1 HGS.out.2)))
          intro K hK; go_simp; refine hK _ ?_; clear hK K
          refine Rc.fK rfl rfl rfl rfl ?_ ?_
          · intro x Fs hx hle hg K hK
            have h1 : Rd x 1 (.slice (p 10).q 2 2) 2 (strs [T1, U1]) := hg.1
            have h2 : Rd x 1 (.slice (p 21).q 2 2) 2 (strs [T2, U2]) := hg.2.1
            have hc := clash_any (p 10).q (p 21).q 2 2 [T1, U1] [T2, U2] x (HT.out.below (HB6.out.trans ((Rc.undrew hx).mono HB6.out.size))) h1 h2 HS1.out HS2.out
            rw [HCL.out] at hc
            simp only [List.length_cons, List.length_nil, Nat.zero_add, Nat.reduceAdd] at hc
            have HC := Lib.hid hc
            clear hc h1 h2 hg
            go_wp2_with fail
            refine HC.out.mono ?_
            rintro e x' ⟨rfl, hb⟩
            go_wp2_with fail
            exact hK Rc.dflt x' hb (fun _ _ _ _ => trivial)
          intro K hK; go_simp; refine hK _ ?_; clear hK K
          refine Rc.done fun x Fs hx hle hg => ?_
          have HB9 := Lib.hid (HB6.out.trans ((Rc.undrew hx).mono HB6.out.size))
          clear hx hle hg
          go_wp2_with fail
          refine NoPanic.normal ?_
          go_wp2_with fail
          go_ret
          exact ⟨rfl, HB9.out⟩
        | true =>
          cases h4 : (L == R) with
          | false =>
            have HNE : Hid (¬ (a0 = a1 ∧ ix = iy ∧ n = m ∧ L = R)) := Lib.hid (fun h => by rw [h.2.2.2] at h4; simp at h4)
            go_wp2_with (first | (refine unguard (by rfl) ?_; refine l_load rfl _ _ rfl _ HLA0.out ?_) | (refine unguard (by rfl) ?_; refine l_load rfl _ _ rfl _ HLA1.out ?_) | (refine unguard (by rfl) ?_; refine l_load rfl _ _ rfl _ HLX0.out ?_) | (refine unguard (by rfl) ?_; refine l_load rfl _ _ rfl _ HLY0.out ?_))
            rw [run_conv_str (P := Tryd.prog) HV6.out 9 23 5 Tryd.underlying9 Tryd.underlying23 Tryd.underlying5]
            go_wp2_with fail
            rw [run_conv_str (P := Tryd.prog) HW6.out 9 23 5 Tryd.underlying9 Tryd.underlying23 Tryd.underlying5]
            go_wp2_with fail
            clear h1 h2 h3 h4 ha0 ha1 hxl hyl hn1 hn2
            have d1 := what_version HRX6.out HX.out
            have d2 := what_version HRY6.out HY.out
            have e1 := lt_of_heap HRX6.out
            have e2 := lt_of_heap HRY6.out
            obtain ⟨T1, hT1⟩ : ∃ T1, T1 = tin a0 ix n L := ⟨_, rfl⟩
            obtain ⟨U1, hU1⟩ : ∃ U1, U1 = tout a0 ix n L := ⟨_, rfl⟩
            obtain ⟨T2, hT2⟩ : ∃ T2, T2 = tin a1 iy m R := ⟨_, rfl⟩
            obtain ⟨U2, hU2⟩ : ∃ U2, U2 = tout a1 iy m R := ⟨_, rfl⟩
            have HCL : Hid (clash [T1, U1] [T2, U2] = true) := Lib.hid (by
              rw [hT1, hU1, hT2, hU2]
              exact one17 HA0.out HA1.out HX.out HY.out HN.out.1.1 HN.out.1.2 HN.out.2.1 HN.out.2.2 (by rw [sha_tout HA0.out, sha_tout HA1.out, ← HME.out]; exact HMM.out.symm) HNE.out)
            have HS1 : Hid (∀ x ∈ [T1, U1], x.length ≤ 70368744177664) := Lib.hid (by
              have h1 := tin_length a0 ix n L HA0.out
              have h2 := tout_length a0 ix n L HA0.out
              rw [← hT1, HX.out] at h1
              rw [← hU1] at h2
              have := HL2.out
              intro x hx
              simp only [List.mem_cons, List.not_mem_nil, or_false] at hx
              rcases hx with rfl | rfl <;> omega)
            have HS2 : Hid (∀ x ∈ [T2, U2], x.length ≤ 70368744177664) := Lib.hid (by
              have h1 := tin_length a1 iy m R HA1.out
              have h2 := tout_length a1 iy m R HA1.out
              rw [← hT2, HY.out] at h1
              rw [← hU2] at h2
              have := HR2.out
              intro x hx
              simp only [List.mem_cons, List.not_mem_nil, or_false] at hx
              rcases hx with rfl | rfl <;> omega)
            have HT1 := Lib.hid hT1
            have HU1 := Lib.hid hU1
            have HT2 := Lib.hid hT2
            have HU2 := Lib.hid hU2
            clear hT1 hU1 hT2 hU2
            refine Rc.region (w6.heap.size) 23 [Rc.F 10 (fun p => .slice p.q 2 2) (fun p _ y => Rd y 1 (.slice p.q 2 2) 2 (strs [T1, U1])), Rc.F 21 (fun p => .slice p.q 2 2) (fun p _ y => Rd y 1 (.slice p.q 2 2) 2 (strs [T2, U2])), Rc.G 22 [10, 21] (fun _ => .bool true) (fun _ _ _ => True)] [] (by kernel_rfl) (Nat.le_refl _) (by kernel_rfl) ?_; intro p; simp only [List.take_succ_cons, List.take_zero, List.drop_succ_cons, List.drop_zero]
            iterate 2 (refine Rc.rK rfl rfl ?_; intro K hK; apply Exists.intro; refine ⟨?_, ?_⟩; (focus (intro x hx;  go_simp; (first | (fail) | ((try go_bits); (try go_simp); (try rfl))))); go_simp; refine hK _ ?_; clear hK K)
            refine Rc.r_str rfl rfl 23 9 _ rfl 5 Tryd.underlying9 Tryd.underlying23 Tryd.underlying5 _ _ (a0) rfl (fun x hx => Rd_of_mid (l := []) (r := a0) (s := a1) (o := 0) (by simpa using (Rp.row_le (Rc.undrew hx) HRP6.out)) rfl HA0.out (by decide)) ?_; intro K hK; go_simp; refine hK _ ?_; clear hK K
            iterate 2 (refine Rc.rK rfl rfl ?_; intro K hK; apply Exists.intro; refine ⟨?_, ?_⟩; (focus (intro x hx;  go_simp; (first | (fail) | ((try go_bits); (try go_simp); (try rfl))))); go_simp; refine hK _ ?_; clear hK K)
            refine Rc.r_str rfl rfl 23 9 _ rfl 5 Tryd.underlying9 Tryd.underlying23 Tryd.underlying5 _ _ (ix) rfl (fun x hx => what_rd (Rp.row_le (Rc.undrew hx) HRX6.out) HX.out) ?_; intro K hK; go_simp; refine hK _ ?_; clear hK K
            iterate 3 (refine Rc.rK rfl rfl ?_; intro K hK; apply Exists.intro; refine ⟨?_, ?_⟩; (focus (intro x hx; have c0x := Rc.cell_le hx e1 d1; go_simp; (first | (fail) | ((try go_bits); (try go_simp); (try rfl))))); go_simp; refine hK _ ?_; clear hK K)
            refine Rc.r_str rfl rfl 23 9 _ rfl 5 Tryd.underlying9 Tryd.underlying23 Tryd.underlying5 _ _ (L) rfl (fun x hx => HV6.out.below (Rc.undrew hx)) ?_; intro K hK; go_simp; refine hK _ ?_; clear hK K
            refine Rc.fK rfl rfl rfl rfl ?_ ?_
            · intro x Fs hx hle hg K hK
              go_wp2_with fail
              refine (texts17_any a0 ix n L x (HT.out.below (HB6.out.trans ((Rc.undrew hx).mono HB6.out.size))) HA0.out HX.out (by have := HL2.out; omega)).mono ?_
              rintro e x' ⟨g, rfl, hgs, hrow, hb⟩
              rw [← HT1.out, ← HU1.out] at hrow
              have HRW := Lib.hid (Rd_two hrow)
              have HGS := Lib.hid (And.intro hgs (lt_of_heap hrow))
              clear hrow hgs
              go_wp2_with fail
              exact hK ⟨some ⟨g, 0, none⟩, 0, undef⟩ x' hb (fun F y hF hy => HRW.out.keeps hy (fun k hk => .inr (by cases hk; exact hF _ HGS.out.1 HGS.out.2)))
            intro K hK; go_simp; refine hK _ ?_; clear hK K
            iterate 2 (refine Rc.rK rfl rfl ?_; intro K hK; apply Exists.intro; refine ⟨?_, ?_⟩; (focus (intro x hx;  go_simp; (first | (fail) | ((try go_bits); (try go_simp); (try rfl))))); go_simp; refine hK _ ?_; clear hK K)
            refine Rc.r_str rfl rfl 23 9 _ rfl 5 Tryd.underlying9 Tryd.underlying23 Tryd.underlying5 _ _ (a1) rfl (fun x hx => Rd_of_mid (l := a0) (r := a1) (s := []) (o := 32) (by simpa using (Rp.row_le (Rc.undrew hx) HRP6.out)) HA0.out HA1.out (by decide)) ?_; intro K hK; go_simp; refine hK _ ?_; clear hK K
            iterate 2 (refine Rc.rK rfl rfl ?_; intro K hK; apply Exists.intro; refine ⟨?_, ?_⟩; (focus (intro x hx;  go_simp; (first | (fail) | ((try go_bits); (try go_simp); (try rfl))))); go_simp; refine hK _ ?_; clear hK K)
            refine Rc.r_str rfl rfl 23 9 _ rfl 5 Tryd.underlying9 Tryd.underlying23 Tryd.underlying5 _ _ (iy) rfl (fun x hx => what_rd (Rp.row_le (Rc.undrew hx) HRY6.out) HY.out) ?_; intro K hK; go_simp; refine hK _ ?_; clear hK K
            iterate 3 (refine Rc.rK rfl rfl ?_; intro K hK; apply Exists.intro; refine ⟨?_, ?_⟩; (focus (intro x hx; have c0x := Rc.cell_le hx e2 d2; go_simp; (first | (fail) | ((try go_bits); (try go_simp); (try rfl))))); go_simp; refine hK _ ?_; clear hK K)
            refine Rc.r_str rfl rfl 23 9 _ rfl 5 Tryd.underlying9 Tryd.underlying23 Tryd.underlying5 _ _ (R) rfl (fun x hx => HW6.out.below (Rc.undrew hx)) ?_; intro K hK; go_simp; refine hK _ ?_; clear hK K
            refine Rc.fK rfl rfl rfl rfl ?_ ?_
            · intro x Fs hx hle hg K hK
              go_wp2_with fail
              refine (texts17_any a1 iy m R x (HT.out.below (HB6.out.trans ((Rc.undrew hx).mono HB6.out.size))) HA1.out HY.out (by have := HR2.out; omega)).mono ?_
              rintro e x' ⟨g, rfl, hgs, hrow, hb⟩
              rw [← HT2.out, ← HU2.out] at hrow
              have HRW := Lib.hid (Rd_two hrow)
              have HGS := Lib.hid (And.intro hgs (lt_of_heap hrow))
              clear hrow hgs
              go_wp2_with fail
              exact hK ⟨some ⟨g, 0, none⟩, 0, undef⟩ x' hb (fun F y hF hy => HRW.out.keeps hy (fun k hk => .inr (by cases hk; exact hF _ HGS.out.1 HGS.out.2)))
            intro K hK; go_simp; refine hK _ ?_; clear hK K
            refine Rc.fK rfl rfl rfl rfl ?_ ?_
            · intro x Fs hx hle hg K hK
              have h1 : Rd x 1 (.slice (p 10).q 2 2) 2 (strs [T1, U1]) := hg.1
              have h2 : Rd x 1 (.slice (p 21).q 2 2) 2 (strs [T2, U2]) := hg.2.1
              have hc := clash_any (p 10).q (p 21).q 2 2 [T1, U1] [T2, U2] x (HT.out.below (HB6.out.trans ((Rc.undrew hx).mono HB6.out.size))) h1 h2 HS1.out HS2.out
              rw [HCL.out] at hc
              simp only [List.length_cons, List.length_nil, Nat.zero_add, Nat.reduceAdd] at hc
              have HC := Lib.hid hc
              clear hc h1 h2 hg
              go_wp2_with fail
              refine HC.out.mono ?_
              rintro e x' ⟨rfl, hb⟩
              go_wp2_with fail
              exact hK Rc.dflt x' hb (fun _ _ _ _ => trivial)
            intro K hK; go_simp; refine hK _ ?_; clear hK K
            refine Rc.done fun x Fs hx hle hg => ?_
            have HB9 := Lib.hid (HB6.out.trans ((Rc.undrew hx).mono HB6.out.size))
            clear hx hle hg
            go_wp2_with fail
            refine NoPanic.normal ?_
            go_wp2_with fail
            go_ret
            exact ⟨rfl, HB9.out⟩
          | true =>
            go_wp2_with (first | (refine unguard (by rfl) ?_; refine l_load rfl _ _ rfl _ HLA0.out ?_) | (refine unguard (by rfl) ?_; refine l_load rfl _ _ rfl _ HLA1.out ?_) | (refine unguard (by rfl) ?_; refine l_load rfl _ _ rfl _ HLX0.out ?_) | (refine unguard (by rfl) ?_; refine l_load rfl _ _ rfl _ HLY0.out ?_))
            rw [run_conv_str (P := Tryd.prog) HV6.out 9 23 5 Tryd.underlying9 Tryd.underlying23 Tryd.underlying5]
            go_wp2_with fail
            rw [run_conv_str (P := Tryd.prog) HW6.out 9 23 5 Tryd.underlying9 Tryd.underlying23 Tryd.underlying5]
            go_wp2_with fail
            go_ret
            exact ⟨rfl, HB6.out⟩
  · have hck : cchk M a1 iy m R = 17 := by unfold cchk; rw [if_neg (by simpa using hmm)]
    rw [hck]
    clear hck hmm
    go_wp2_with fail
    go_ret
    exact ⟨rfl, HB6.out⟩
end Ref
end Go.Proofs.YtkembhonfehlbaaDoor
